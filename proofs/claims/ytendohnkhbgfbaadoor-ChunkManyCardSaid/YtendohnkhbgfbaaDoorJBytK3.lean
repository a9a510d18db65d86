/-
  Texts joined into one file: Bits, HuffX, RdA, NextP, GetP, LzP.
-/
import Derived.Test.YtendohnkhbgfbaaDoorJBytK2
import Derived.IntWalk
import Derived.BigQuiet
import Derived.Deep.RegionWith
import Derived.Deep.RegionHeld3
import Derived.Deep.Cut
import Derived.Deep.CutRange
import Derived.Test.YtendohnkhbgfbaaDoorJBytK1
/-
  The walks of package bits: Reader.
-/
namespace Go.Proofs.YtendohnkhbgfbaaDoor
open Go.RowKit

/-- A reader of these bytes, that stands at this bit. -/
def RdrAt (w : World) (r : Nat) (A : Option Addr) (len cap : Nat) (at' : Nat) : Prop := w.heap[r]? = some (.cells #[.slice A len cap, .int .i64 at'] 120 (0, 0))
theorem RdrAt.lt {w : World} {r : Nat} {A : Option Addr} {len cap at' : Nat} (h : RdrAt w r A len cap at') : r < w.heap.size := (Array.getElem?_eq_some_iff.1 h).1
theorem RdrAt.c0 {w : World} {r : Nat} {A : Option Addr} {len cap at' : Nat} (h : RdrAt w r A len cap at') : w.cell? ⟨r, 0, none⟩ = some (.slice A len cap) := by
  rw [cell_of_row w r 0 _ _ (0, 0) h]; rfl
theorem RdrAt.c1 {w : World} {r : Nat} {A : Option Addr} {len cap at' : Nat} (h : RdrAt w r A len cap at') : w.cell? ⟨r, 1, none⟩ = some (.int .i64 at') := by
  rw [cell_of_row w r 1 _ _ (0, 0) h]; rfl
theorem RdrAt.frozen {w : World} {r : Nat} {A : Option Addr} {len cap at' : Nat} (h : RdrAt w r A len cap at') (j : Nat) : w.frozen? ⟨r, j, none⟩ = false := frozen_of_row w r j _ _ h
theorem RdrAt.set {w : World} {r : Nat} {A : Option Addr} {len cap at' : Nat} (h : RdrAt w r A len cap at') (x : Nat) : RdrAt (w.setCell ⟨r, 1, none⟩ (.int .i64 x)) r A len cap x := by
  unfold RdrAt
  rw [heap_setCell_same w r 1 _ _ _ h]
  rfl
theorem RdrAt.keep {w w' : World} {r : Nat} {A : Option Addr} {len cap at' : Nat} (h : RdrAt w r A len cap at') (hb : Below w.heap.size w w') : RdrAt w' r A len cap at' := (hb.block r h.lt).trans h

set_option maxHeartbeats 1000000 in
theorem Left_calls (r : Nat) (A : Option Addr) (len cap at' : Nat) (w : World) (hR : RdrAt w r A len cap at') (hlen : len ≤ 140737488355328) (hat : at' ≤ 8 * len) :
    Calls Tryd.prog 102 #[.pointer (some ⟨r, 0, none⟩)] w fun e w' => e = .returned (.int .i64 (8 * len - at')) ∧ Below w.heap.size w w' := by
  have c0 := hR.c0
  have c1 := hR.c1
  clear hR
  have s1 : IntKind.i64.wrap (8 * (len : Int)) = 8 * len := IntWalk.i64_in _ (by omega)
  have s2 : IntKind.i64.wrap (8 * (len : Int) - at') = 8 * len - at' := IntWalk.i64_in _ (by omega)
  go_enter Tryd.func102, Tryd.ntmps102
  go_wp2
  go_quiet (fail)
  go_wp2
  go_ret
  exact ⟨rfl, (Below.refl _ _).trans ⟨rfl, rfl, rfl, Nat.le_refl _, fun _ _ => rfl⟩⟩

theorem Rd.grown {w w1 : World} {k : IntKind} {A : Option Addr} {n : Nat} {xs : List Int} (h : Rd w k A n xs) {r : Nat} (hg : w.grownBy w1 (some r)) (hne : ∀ b o, A = some ⟨b, o, none⟩ → b ≠ r) : Rd w1 k A n xs :=
  ⟨h.1, fun hn => by obtain ⟨b, o, e, hc⟩ := h.2 hn; exact ⟨b, o, e, fun j hj => hg.cell (hc j hj) (by simpa using hne b o e)⟩⟩
theorem grown_below {w w1 w2 : World} {r : Nat} (h : w.grownBy w1 (some r)) (hb : Below w1.heap.size w1 w2) : w.grownBy w2 (some r) :=
  ⟨hb.os.trans h.os, hb.tape.trans h.tape, hb.output.trans h.output, Nat.le_trans h.size hb.size, fun k hk hne => (hb.block k (Nat.lt_of_lt_of_le hk h.size)).trans (h.block k hk hne)⟩
theorem grown_set {w w1 : World} {r : Nat} (h : w.grownBy w1 (some r)) (j : Nat) (v : Value) : w.grownBy (w1.setCell ⟨r, j, none⟩ v) (some r) :=
  ⟨h.os, h.tape, h.output, by simpa using h.size, fun k hk hne => (heap_setCell_other w1 ⟨r, j, none⟩ k v (by intro e; exact hne (by rw [e]))).trans (h.block k hk hne)⟩
theorem grown_refl (w : World) (row : Option Nat) : w.grownBy w row := ⟨rfl, rfl, rfl, Nat.le_refl _, fun _ _ _ => rfl⟩
def bitAt (bs : List Int) (i : Nat) : Nat := (rd bs (i / 8)).toNat / 2 ^ (i % 8) % 2
def numAt (bs : List Int) (at' : Nat) : Nat → Nat
  | 0 => 0
  | i + 1 => numAt bs at' i + bitAt bs (at' + i) * 2 ^ i
theorem bitAt_le (bs : List Int) (i : Nat) : bitAt bs i ≤ 1 := by unfold bitAt; omega
theorem numAt_lt (bs : List Int) (at' i : Nat) : numAt bs at' i < 2 ^ i := by
  induction i with
  | zero => simp [numAt]
  | succ i ih =>
    have h := Nat.mul_le_mul_right (2 ^ i) (bitAt_le bs (at' + i))
    simp only [numAt, Nat.pow_succ]
    omega
theorem bit_step (bs : List Int) (at' k p y : Nat) (hp : p = at' + k) (hy : rd bs (p / 8) = y) (hy2 : y < 256) (hk : k < 60) :
    bits BinOp.or IntKind.u64 ((numAt bs at' k : Nat) : Int) (IntKind.u64.wrap (IntKind.u64.wrap (bits BinOp.and IntKind.u8 ((y : Int) / 2 ^ (p % 8)) 1) * 2 ^ k)) = ((numAt bs at' (k + 1) : Nat) : Int) := by
  have e1 : (y : Int) / 2 ^ (p % 8) = ((y / 2 ^ (p % 8) : Nat) : Int) := by
    rw [Int.natCast_ediv, Int.natCast_pow]
    rfl
  have hd : y / 2 ^ (p % 8) ≤ y := Nat.div_le_self _ _
  have e2 : bitAt bs p = y / 2 ^ (p % 8) % 2 := by unfold bitAt; rw [hy]; rfl
  have hb := bitAt_le bs p
  have hpow : (2 : Nat) ^ k ≤ 2 ^ 60 := Nat.pow_le_pow_right (by omega) (by omega)
  have hp60 : (2 : Nat) ^ 60 = 1152921504606846976 := by decide
  have hm : bitAt bs p * 2 ^ k ≤ 1 * 2 ^ k := Nat.mul_le_mul_right _ hb
  rw [e1, and1_u8 _ (by omega), ← e2, IntWalk.u64_in ((bitAt bs p : Nat) : Int) (by omega)]
  have e3 : ((bitAt bs p : Nat) : Int) * 2 ^ k = ((bitAt bs p * 2 ^ k : Nat) : Int) := by
    rw [Int.natCast_mul, Int.natCast_pow]
    rfl
  rw [e3, IntWalk.u64_in _ (by omega), or_u64_top _ _ _ (numAt_lt bs at' k) hb (by omega)]
  simp only [numAt, hp]
set_option maxHeartbeats 1000000 in
theorem Bits_calls (r : Nat) (A : Option Addr) (len cap at' n : Nat) (bs : List Int) (w : World) (hR : RdrAt w r A len cap at') (hB : Rd w .u8 A len bs) (hb : ∀ j, j < len → 0 ≤ rd bs j ∧ rd bs j ≤ 255) (hne : ∀ b o, A = some ⟨b, o, none⟩ → b ≠ r) (hlen : len ≤ 140737488355328) (hat : at' ≤ 8 * len) (hn : n ≤ 60) (hok : at' + n ≤ 8 * len) :
    Calls Tryd.prog 76 #[.pointer (some ⟨r, 0, none⟩), .int .i64 n] w fun e w' => e = .returned (.tuple #[(.int .u64 (numAt bs at' n : Nat)), .bool true]) ∧ RdrAt w' r A len cap (at' + n) ∧ w.grownBy w' (some r) := by
  have HR := Lib.hid hR
  have HB := Lib.hid hB
  have Hb := Lib.hid hb
  clear hR hB hb
  go_enter Tryd.func76, Tryd.ntmps76
  go_wp2_with fail
  refine (Left_calls r A len cap at' _ HR.out hlen hat).mono ?_
  rintro e w1 ⟨rfl, hb1⟩
  have HR1 := Lib.hid (HR.out.keep hb1)
  have HB1 := Lib.hid (HB.out.below hb1)
  have Hb1 := Lib.hid hb1
  clear hb1
  go_wp2
  go_loopw [6, 21] (fun x i wr => ∃ k : Nat, k ≤ n ∧ i = .int .i64 k ∧ x = .int .u64 (numAt bs at' k : Nat) ∧ RdrAt wr r A len cap (at' + k) ∧ Hid (w.grownBy wr (some r))) (fun _ i _ => n - (intOf i).toNat)
  case atStart => exact ⟨0, by omega, rfl, rfl, HR1.out, grown_below (grown_refl w _) Hb1.out⟩
  case round =>
    obtain ⟨k, hk, rfl, rfl, hR, Hg⟩ := hrel
    have HRk := Lib.hid hR
    have c0 := hR.c0
    have c1 := hR.c1
    have f1 := hR.frozen 1
    clear hR
    by_cases hlt : k < n
    · obtain ⟨b, o, rfl, hc⟩ := (HB.out.grown Hg.out hne).2 (by omega)
      obtain ⟨p, hp⟩ : ∃ p : Nat, p = at' + k := ⟨_, rfl⟩
      have Hp := Lib.hid hp
      rw [← hp] at c1
      have hj : p / 8 < len := by omega
      have z := hc _ hj
      clear hc hp
      have hbr := Hb.out _ hj
      have s1 : ((p : Int) / 8).toNat = p / 8 := by omega
      have s2 : (0 : Int) ≤ (p : Int) / 8 := by omega
      have s3 : (p : Int) / 8 < len := by omega
      obtain ⟨y, hy⟩ : ∃ y : Nat, rd bs (p / 8) = y := ⟨(rd bs (p / 8)).toNat, by omega⟩
      rw [hy] at z hbr
      have Ev := Lib.hid (bit_step bs at' k p y Hp.out hy (by omega) (by omega))
      obtain ⟨q, hq⟩ : ∃ q : Nat, q = p % 8 := ⟨_, rfl⟩
      have a1 := and7_i64 p (by omega)
      rw [← hq] at a1
      have hbit : bitAt bs p = y / 2 ^ q % 2 := by unfold bitAt; rw [hy, ← hq]; rfl
      have Hbit := Lib.hid hbit
      have hyd : y / 2 ^ q ≤ y := Nat.div_le_self _ _
      obtain ⟨u, hu⟩ : ∃ u : Nat, u = y / 2 ^ q := ⟨_, rfl⟩
      have a2 := and1_u8 u (by omega)
      have hq8 : q < 8 := by omega
      clear hbit
      go_wp2
      go_region
      rw [Ev.out]
      go_wp2
      go_roundw
      case rel =>
        refine ⟨k + 1, by omega, by go_num, rfl, ?_, grown_set (grown_below Hg.out (Below.refl _ _).drew) 1 _⟩
        have h9 : RdrAt (wr.setCell ⟨r, 1, none⟩ (.int .i64 ((p : Int) + 1))) r (some ⟨b, o, none⟩) len cap (p + 1) := HRk.out.set (p + 1)
        rw [show at' + (k + 1) = p + 1 from by rw [Hp.out]; omega]
        exact h9
      case measure => simp [intOf]; omega
    · have hkn : k = n := by omega
      rw [hkn] at HRk
      go_wp2
      refine bodyPost_ret (v := .tuple #[.int .u64 (numAt bs at' k : Nat), .bool true]) (by simp [results, Tryd.results76, go_sem]) rfl ⟨by rw [hkn], HRk.out, Hg.out⟩
set_option maxHeartbeats 1000000 in
theorem BitsShort_calls (r : Nat) (A : Option Addr) (len cap at' n : Nat) (w : World) (hR : RdrAt w r A len cap at') (hlen : len ≤ 140737488355328) (hat : at' ≤ 8 * len) (hn : n ≤ 60) (hno : 8 * len < at' + n) :
    Calls Tryd.prog 76 #[.pointer (some ⟨r, 0, none⟩), .int .i64 n] w fun e w' => e = .returned (.tuple #[.int .u64 0, .bool false]) ∧ Below w.heap.size w w' := by
  have HR := Lib.hid hR
  clear hR
  go_enter Tryd.func76, Tryd.ntmps76
  go_wp2_with fail
  refine (Left_calls r A len cap at' _ HR.out hlen hat).mono ?_
  rintro e w1 ⟨rfl, hb1⟩
  have Hb1 := Lib.hid hb1
  clear hb1
  go_wp2
  refine bodyPost_ret (v := .tuple #[.int .u64 0, .bool false]) (by simp [results, Tryd.results76, go_sem]) rfl ⟨rfl, Hb1.out⟩
end Go.Proofs.YtendohnkhbgfbaaDoor
/-
  The walk of Next.
-/
namespace Go.Proofs.YtendohnkhbgfbaaDoor
open Go.RowKit

/-- The number that k bits tell, the highest first. -/
def codeTo (bs : List Int) (p : Nat) : Nat → Nat
  | 0 => 0
  | k + 1 => 2 * codeTo bs p k + bitAt bs (p + k)
theorem codeTo_lt (bs : List Int) (p k : Nat) : codeTo bs p k < 2 ^ k := by
  induction k with
  | zero => simp [codeTo]
  | succ k ih =>
    have := bitAt_le bs (p + k)
    simp only [codeTo, Nat.pow_succ]
    omega
def hitB (xs bs : List Int) (p k : Nat) : Bool := decide (0 ≤ (codeTo bs p k : Int) - firstAt (cntOf xs) k) && decide ((codeTo bs p k : Int) - firstAt (cntOf xs) k < rd (cntOf xs) k)
def symAt (xs bs : List Int) (p k : Nat) : Int := rd (symsTo xs 15) ((symsTo xs (k - 1)).length + ((codeTo bs p k : Int) - firstAt (cntOf xs) k).toNat)
theorem ofLen_len (xs : List Int) (k s : Nat) (hs : s ≤ xs.length) : (ofLen xs k s).length = before xs k s := by
  induction s with
  | zero => simp [ofLen, before]
  | succ s ih =>
    have h1 := ih (by omega)
    by_cases e : rd xs s = k
    · rw [ofLen_hit xs k s e, before_hit xs k s (by omega) e, List.length_append, h1]
      rfl
    · rw [ofLen_miss xs k s e, before_miss xs k s (by omega) e, h1]
theorem symsTo_mono (xs : List Int) (k d : Nat) : (symsTo xs k).length ≤ (symsTo xs (k + d)).length := by
  induction d with
  | zero => exact Nat.le_refl _
  | succ d ih =>
    have : (symsTo xs (k + d + 1)).length = (symsTo xs (k + d)).length + (ofLen xs (k + d + 1) xs.length).length := by simp [symsTo]
    show _ ≤ (symsTo xs (k + d + 1)).length
    omega
theorem symsTo_room (xs : List Int) (k : Nat) (hk : 0 < k) (hk2 : k ≤ 15) : (symsTo xs (k - 1)).length + rd (cntOf xs) k ≤ ((symsTo xs 15).length : Nat) := by
  obtain ⟨j, rfl⟩ : ∃ j, k = j + 1 := ⟨k - 1, by omega⟩
  have h1 := symsTo_mono xs (j + 1) (15 - (j + 1))
  rw [show j + 1 + (15 - (j + 1)) = 15 from by omega] at h1
  have h2 : (symsTo xs (j + 1)).length = (symsTo xs j).length + (ofLen xs (j + 1) xs.length).length := by simp [symsTo]
  rw [ofLen_len xs (j + 1) xs.length (Nat.le_refl _)] at h2
  rw [rd_cntOf_pos xs (j + 1) (by omega) (by omega)]
  simp only [Nat.add_sub_cancel]
  omega
theorem grown_trans {w w1 w2 : World} {row : Option Nat} (h : w.grownBy w1 row) (k : w1.grownBy w2 row) : w.grownBy w2 row :=
  ⟨k.os.trans h.os, k.tape.trans h.tape, k.output.trans h.output, Nat.le_trans h.size k.size, fun i hi hne => (k.block i (Nat.lt_of_lt_of_le hi h.size) hne).trans (h.block i hi hne)⟩
theorem numAt_one (bs : List Int) (p : Nat) : numAt bs p 1 = bitAt bs p := by simp [numAt]

set_option maxHeartbeats 2000000 in
set_option maxRecDepth 100000 in
theorem Next_calls (h r base : Nat) (A : Option Addr) (len cap p : Nat) (xs bs : List Int) (w : World) (hC : Coder w base h xs) (hxs : xs.length ≤ 1000000) (hR : RdrAt w r A len cap p) (hB : Rd w .u8 A len bs) (hb : ∀ j, j < len → 0 ≤ rd bs j ∧ rd bs j ≤ 255) (hne : ∀ b o, A = some ⟨b, o, none⟩ → b ≠ r) (hlen : len ≤ 1000000) (hp : p ≤ 8 * len) (hhr : h ≠ r) :
    Calls Tryd.prog 121 #[.pointer (some ⟨h, 0, none⟩), .pointer (some ⟨r, 0, none⟩)] w fun e w' =>
      ((∃ k, 0 < k ∧ k ≤ 15 ∧ p + k ≤ 8 * len ∧ (∀ i, 0 < i → i < k → hitB xs bs p i = false) ∧ hitB xs bs p k = true ∧ e = .returned (.tuple #[.int .i64 (symAt xs bs p k), .bool true]) ∧ RdrAt w' r A len cap (p + k)) ∨
       (∃ k, k ≤ 15 ∧ p + k ≤ 8 * len ∧ (∀ i, 0 < i → i ≤ k → hitB xs bs p i = false) ∧ (k = 15 ∨ p + k = 8 * len) ∧ e = .returned (.tuple #[.int .i64 0, .bool false]) ∧ RdrAt w' r A len cap (p + k))) ∧ w.grownBy w' (some r) := by
  have HC := Lib.hid hC
  have HR := Lib.hid hR
  have HB := Lib.hid hB
  have Hb := Lib.hid hb
  clear hC hR hB hb
  go_enter Tryd.func121, Tryd.ntmps121
  go_wp2
  go_loopw [6, 7] (fun x i wr => ∃ k : Nat, k ≤ 15 ∧ i = .int .i64 (1 + k) ∧ x = .int .i64 (codeTo bs p k : Nat) ∧ p + k ≤ 8 * len ∧ RdrAt wr r A len cap (p + k) ∧ Hid (∀ i, 0 < i → i ≤ k → hitB xs bs p i = false) ∧ Hid (w.grownBy wr (some r))) (fun _ i _ => 16 - (intOf i).toNat)
  case atStart => exact ⟨0, by omega, rfl, rfl, by omega, HR.out, (fun i h1 h2 => by omega), grown_refl w _⟩
  case round =>
    obtain ⟨k, hk, rfl, rfl, hpk, hR, Hno, Hg⟩ := hrel
    have HRk := Lib.hid hR
    clear hR
    by_cases hlt : k < 15
    · by_cases hmore : p + k < 8 * len
      · go_wp2_with fail
        refine (Bits_calls r A len cap (p + k) 1 bs _ HRk.out (HB.out.grown Hg.out hne) Hb.out hne (by omega) hpk (by omega) (by omega)).mono ?_
        rintro e w2 ⟨rfl, hR2, hg2⟩
        rw [numAt_one]
        obtain ⟨m, v, hm, hbase, hCA, hmm, hown⟩ := HC.out
        have hg02 := grown_trans Hg.out hg2
        have hC2 : CoderAt w2 h m v := (hg02.block h hCA.lt (by simpa using hhr)).trans hCA
        obtain ⟨q1, q2, q3⟩ := hmm (1 + k) (by omega) (by omega)
        have cf := hC2.cell (j := 1 + k) (by omega)
        have cc := hC2.cell (j := 16 + (1 + k)) (by omega)
        have ca := hC2.cell (j := 32 + (1 + k)) (by omega)
        rw [q1] at cf
        rw [q2] at cc
        rw [q3] at ca
        have cl := hC2.last hm
        have hbt := bitAt_le bs (p + k)
        have hcode : codeTo bs p (1 + k) = 2 * codeTo bs p k + bitAt bs (p + k) := by rw [Nat.add_comm]; rfl
        have hclt := codeTo_lt bs p k
        have hpow : (2 : Nat) ^ k ≤ 2 ^ 15 := Nat.pow_le_pow_right (by omega) (by omega)
        have hp15 : (2 : Nat) ^ 15 = 32768 := by decide
        have hcl : codeTo bs p k ≤ 32768 := by omega
        have hfr := firstAt_le (cntOf xs) xs.length (by omega) (rd_cntOf xs) (1 + k) (by omega)
        have hroom := symsTo_room xs (1 + k) (by omega) (by omega)
        have s2 : ((1 : Int) + k).toNat = 1 + k := by omega
        have s3 : (0 : Int) ≤ 1 + k := by omega
        have s4 : (1 : Int) + k < 16 := by omega
        have e1 : (2 : Int) * (codeTo bs p k : Nat) + (bitAt bs (p + k) : Nat) = (codeTo bs p (1 + k) : Nat) := by rw [hcode]; omega
        have HC2 := Lib.hid hC2
        have HR2 := Lib.hid hR2
        have Hg2 := Lib.hid hg02
        have Hown := Lib.hid hown
        have Hcode := Lib.hid hcode
        clear hC2 hR2 hg02 hg2 hown hmm hCA q1 q2 q3 hpow hclt hp15 hcode
        have E1 := Lib.hid e1
        clear e1
        rcases Int.lt_or_le (2 * ((codeTo bs p k : Nat) : Int) + (bitAt bs (p + k) : Nat)) (firstAt (cntOf xs) (1 + k)) with t1 | t1
        · have hmiss : Hid (hitB xs bs p (1 + k) = false) := by show hitB xs bs p (1 + k) = false; unfold hitB; rw [← E1.out]; simp; omega
          have t3 : 2 * ((codeTo bs p k : Nat) : Int) + (bitAt bs (p + k) : Nat) - firstAt (cntOf xs) (1 + k) < 0 := by omega
          go_wp2
          go_roundw
          case rel =>
            refine ⟨k + 1, by omega, by go_num, ?_, by omega, by rw [← Nat.add_assoc]; exact HR2.out, ?_, Hg2.out⟩
            · rw [Nat.add_comm k 1, ← E1.out]
            · intro i h1 h2
              rcases Nat.lt_or_ge k i with h | h
              · rw [show i = 1 + k from by omega]; exact hmiss.out
              · exact Hno.out i h1 h
          case measure => simp [intOf]; omega
        · have t3 : (0 : Int) ≤ 2 * ((codeTo bs p k : Nat) : Int) + (bitAt bs (p + k) : Nat) - firstAt (cntOf xs) (1 + k) := by omega
          rcases Int.lt_or_le (2 * ((codeTo bs p k : Nat) : Int) + (bitAt bs (p + k) : Nat) - firstAt (cntOf xs) (1 + k)) (rd (cntOf xs) (1 + k)) with t2 | t2
          · have hhit : Hid (hitB xs bs p (1 + k) = true) := by show hitB xs bs p (1 + k) = true; unfold hitB; rw [← E1.out]; simp only [t3, t2, decide_true]; rfl
            have hsl := symsTo_le xs 15
            obtain ⟨J, hJ⟩ : ∃ J : Nat, (J : Int) = ((symsTo xs (1 + k - 1)).length : Nat) + (2 * ((codeTo bs p k : Nat) : Int) + (bitAt bs (p + k) : Nat) - firstAt (cntOf xs) (1 + k)) := ⟨_, Int.toNat_of_nonneg (by omega)⟩
            have hJlt : J < (symsTo xs 15).length := by omega
            have hsym : symAt xs bs p (1 + k) = rd (symsTo xs 15) J := by
              unfold symAt
              rw [← E1.out, show (symsTo xs (1 + k - 1)).length + (2 * ((codeTo bs p k : Nat) : Int) + (bitAt bs (p + k) : Nat) - firstAt (cntOf xs) (1 + k)).toNat = J from by omega]
            have s5 : IntKind.i64.wrap (((symsTo xs (1 + k - 1)).length : Nat) + (2 * ((codeTo bs p k : Nat) : Int) + (bitAt bs (p + k) : Nat) - firstAt (cntOf xs) (1 + k))) = (J : Int) := by rw [← hJ]; exact IntWalk.i64_in _ (by omega)
            have hown2 := Hown.out.kept Hg2.out (.inr (own_ne HR.out (by decide) Hown.out))
            obtain ⟨g, gc, rfl, _, _, hgc, hgcell, _⟩ := own_form hown2 (by omega)
            have hz := hgcell J _ (ints_get hJlt)
            have Hsym := Lib.hid hsym
            clear hown2 hgcell hsym hJ Hown HC hroom
            generalize hSL : (symsTo xs 15).length = SL at *
            generalize hSA : ((symsTo xs (1 + k - 1)).length : Int) = SA at *
            go_wp2
            go_region
            go_wp2
            refine bodyPost_ret (v := .tuple #[.int .i64 (rd (symsTo xs 15) J), .bool true]) (by simp [results, Tryd.results121, go_sem]) rfl ⟨.inl ⟨1 + k, by omega, by omega, by omega, ?_, hhit.out, by rw [Hsym.out], by rw [← Nat.add_assoc, Nat.add_right_comm]; exact HR2.out⟩, ?_⟩
            · intro i h1 h2
              exact Hno.out i h1 (by omega)
            · exact grown_below Hg2.out (Below.refl _ _).drew
          · have hmiss : Hid (hitB xs bs p (1 + k) = false) := by show hitB xs bs p (1 + k) = false; unfold hitB; rw [← E1.out, decide_eq_false (p := _ < _) (by omega), Bool.and_false]
            go_wp2
            go_roundw
            case rel =>
              refine ⟨k + 1, by omega, by go_num, ?_, by omega, by rw [← Nat.add_assoc]; exact HR2.out, ?_, Hg2.out⟩
              · rw [Nat.add_comm k 1, ← E1.out]
              · intro i h1 h2
                rcases Nat.lt_or_ge k i with h | h
                · rw [show i = 1 + k from by omega]; exact hmiss.out
                · exact Hno.out i h1 h
            case measure => simp [intOf]; omega
      · go_wp2_with fail
        refine (BitsShort_calls r A len cap (p + k) 1 _ HRk.out (by omega) hpk (by omega) (by omega)).mono ?_
        rintro e w2 ⟨rfl, hb2⟩
        have HR2 := Lib.hid (HRk.out.keep hb2)
        have Hg2 := Lib.hid (grown_below Hg.out hb2)
        clear hb2
        go_wp2
        refine bodyPost_ret (v := .tuple #[.int .i64 0, .bool false]) (by simp [results, Tryd.results121, go_sem]) rfl ⟨.inr ⟨k, hk, hpk, Hno.out, .inr (by omega), rfl, HR2.out⟩, Hg2.out⟩
    · have hk15 : k = 15 := by omega
      go_wp2
      refine bodyPost_ret (v := .tuple #[.int .i64 0, .bool false]) (by simp [results, Tryd.results121, go_sem]) rfl ⟨.inr ⟨k, hk, hpk, Hno.out, .inl hk15, rfl, HRk.out⟩, Hg.out⟩
end Go.Proofs.YtendohnkhbgfbaaDoor
/-
  Small facts: what is read in two lists joined; rows that lie nowhere (no program).
-/
namespace Go.Proofs.YtendohnkhbgfbaaDoor
open Go.RowKit

theorem rd_appL {a b : List Int} {i : Nat} (h : i < a.length) : rd (a ++ b) i = rd a i := by
  unfold rd
  rw [List.getD_eq_getElem?_getD, List.getD_eq_getElem?_getD, List.getElem?_append_left h]
theorem rd_appR {a b : List Int} (i : Nat) : rd (a ++ b) (a.length + i) = rd b i := by
  unfold rd
  rw [List.getD_eq_getElem?_getD, List.getD_eq_getElem?_getD, List.getElem?_append_right (Nat.le_add_right _ _), Nat.add_sub_cancel_left]
theorem own_none {w : World} {base n c : Nat} {e : TypeId} {size : Nat} {A : Option Addr} {xs : List Value} (h : w.ownsRow base e size (.slice A n c) n xs) : A = none → n = 0 ∧ c = 0 := by
  intro hA
  subst hA
  rcases h.2 with ⟨h1, h2⟩ | ⟨g, cap, cur, h1, _⟩
  · simp at h1
    exact ⟨h2, h1.2⟩
  · cases h1
/-- What was there first lies apart from a younger block. -/
theorem Rd.apart {w0 w w1 : World} {k : IntKind} {A : Option Addr} {n : Nat} {xs : List Int} (h0 : Rd w0 k A n xs) (h : Rd w k A n xs) {r : Nat} (hg : w.grownBy w1 (some r)) (hr : w0.heap.size ≤ r) : Rd w1 k A n xs :=
  ⟨h.1, fun hn => by
    obtain ⟨b, o, e, hc⟩ := h.2 hn
    obtain ⟨b', o', e', hc'⟩ := h0.2 hn
    rw [e] at e'
    cases e'
    have hlt := World.block_lt_of_cell? _ _ (hc' 0 hn)
    exact ⟨b, o, e, fun j hj => hg.cell (hc j hj) (by simp at hlt ⊢; omega)⟩⟩
end Go.Proofs.YtendohnkhbgfbaaDoor
/-
  At most one symbol's code stands at a place of the bits (no program); what Coder.Next reads, told by it.
-/
namespace Go.Proofs.YtendohnkhbgfbaaDoor
open Go.RowKit

theorem firstAt_far (c : List Int) (hc : ∀ j, j < 16 → 0 ≤ rd c j) (k d : Nat) (h : k + d + 1 ≤ 16) : 2 ^ (d + 1) * (firstAt c k + rd c k) ≤ firstAt c (k + d + 1) := by
  induction d with
  | zero => simp [firstAt]
  | succ d ih =>
    have h1 := ih (by omega)
    have h2 := hc (k + d + 1) (by omega)
    have e : (2 : Int) ^ (d + 1 + 1) * (firstAt c k + rd c k) = 2 * (2 ^ (d + 1) * (firstAt c k + rd c k)) := by rw [Int.pow_succ, Int.mul_comm _ 2, Int.mul_assoc]
    have e2 : firstAt c (k + (d + 1) + 1) = 2 * (firstAt c (k + d + 1) + rd c (k + d + 1)) := rfl
    rw [e, e2]
    omega
theorem codeTo_far (bs : List Int) (p k d : Nat) : 2 ^ d * codeTo bs p k ≤ codeTo bs p (k + d) ∧ codeTo bs p (k + d) + 1 ≤ 2 ^ d * (codeTo bs p k + 1) := by
  induction d with
  | zero => simp
  | succ d ih =>
    have hb := bitAt_le bs (p + (k + d))
    have e1 : 2 ^ (d + 1) * codeTo bs p k = 2 * (2 ^ d * codeTo bs p k) := by rw [Nat.pow_succ, Nat.mul_comm _ 2, Nat.mul_assoc]
    have e2 : 2 ^ (d + 1) * (codeTo bs p k + 1) = 2 * (2 ^ d * (codeTo bs p k + 1)) := by rw [Nat.pow_succ, Nat.mul_comm _ 2, Nat.mul_assoc]
    have e3 : codeTo bs p (k + (d + 1)) = 2 * codeTo bs p (k + d) + bitAt bs (p + (k + d)) := rfl
    rw [e1, e2, e3]
    omega
theorem hitB_iff (xs bs : List Int) (p k : Nat) : hitB xs bs p k = true ↔ firstAt (cntOf xs) k ≤ (codeTo bs p k : Int) ∧ (codeTo bs p k : Int) < firstAt (cntOf xs) k + rd (cntOf xs) k := by
  unfold hitB
  rw [Bool.and_eq_true, decide_eq_true_iff, decide_eq_true_iff]
  omega
theorem hitB_lt (xs bs : List Int) (p k d : Nat) (hd : k + d + 1 ≤ 15) (h1 : hitB xs bs p k = true) (h2 : hitB xs bs p (k + d + 1) = true) : False := by
  rw [hitB_iff] at h1 h2
  have f := firstAt_far (cntOf xs) (fun j hj => (rd_cntOf xs j hj).1) k d (by omega)
  have c := (codeTo_far bs p k (d + 1)).2
  have c2 : ((codeTo bs p (k + d + 1) : Nat) : Int) + 1 ≤ 2 ^ (d + 1) * ((codeTo bs p k : Int) + 1) := by
    have : ((codeTo bs p (k + (d + 1)) + 1 : Nat) : Int) ≤ ((2 ^ (d + 1) * (codeTo bs p k + 1) : Nat) : Int) := Int.ofNat_le.2 c
    rw [Int.natCast_mul, Int.natCast_pow] at this
    exact this
  have m : (2 : Int) ^ (d + 1) * ((codeTo bs p k : Int) + 1) ≤ 2 ^ (d + 1) * (firstAt (cntOf xs) k + rd (cntOf xs) k) := Int.mul_le_mul_of_nonneg_left (by omega) (Int.le_of_lt (Int.pow_pos (by omega)))
  omega
theorem before_mono (xs : List Int) (k : Int) {s t : Nat} (h : s ≤ t) : before xs k s ≤ before xs k t := by
  unfold before
  refine List.Sublist.length_le (List.Sublist.filter _ ?_)
  rw [show s = min s t from by omega, ← List.take_take]
  exact List.take_sublist _ _
theorem before_lt (xs : List Int) (k : Int) {s t : Nat} (h : s < t) (ht : s < xs.length) (hk : rd xs s = k) : before xs k s < before xs k t := by
  have h1 := before_hit xs k s ht hk
  have h2 := before_mono xs k (s := s + 1) (t := t) h
  omega
/-- The symbol whose code stands at the place, of which so many bits are left. -/
def Hit (xs bs : List Int) (p m s : Nat) : Prop := s < xs.length ∧ 0 < rd xs s ∧ rd xs s ≤ 15 ∧ (rd xs s).toNat ≤ m ∧ ((codeTo bs p (rd xs s).toNat : Nat) : Int) = codeAt xs s
theorem Hit.code {xs bs : List Int} {p m s : Nat} (h : Hit xs bs p m s) : ((codeTo bs p (rd xs s).toNat : Nat) : Int) = firstAt (cntOf xs) (rd xs s).toNat + (before xs (rd xs s) s : Nat) := by
  obtain ⟨_, h2, h3, _, h5⟩ := h
  rw [h5]
  unfold codeAt nextCode
  rw [if_pos ⟨h2, h3⟩, Int.toNat_of_nonneg (by omega)]
theorem Hit.b {xs bs : List Int} {p m s : Nat} (h : Hit xs bs p m s) : hitB xs bs p (rd xs s).toNat = true := by
  have c := h.code
  obtain ⟨h1, h2, h3, _, _⟩ := h
  rw [hitB_iff, c, rd_cntOf_pos xs (rd xs s).toNat (by omega) (by omega), Int.toNat_of_nonneg (by omega)]
  have := before_lt xs (rd xs s) h1 h1 rfl
  omega
theorem Hit.one {xs bs : List Int} {p m s t : Nat} (h : Hit xs bs p m s) (g : Hit xs bs p m t) : s = t := by
  have b1 := h.b
  have b2 := g.b
  have c1 := h.code
  have c2 := g.code
  obtain ⟨h1, h2, h3, _, _⟩ := h
  obtain ⟨g1, g2, g3, _, _⟩ := g
  rcases Nat.lt_trichotomy (rd xs s).toNat (rd xs t).toNat with q | q | q
  · obtain ⟨d, hd⟩ : ∃ d, (rd xs t).toNat = (rd xs s).toNat + d + 1 := ⟨(rd xs t).toNat - (rd xs s).toNat - 1, by omega⟩
    rw [hd] at b2
    exact (hitB_lt xs bs p _ d (by omega) b1 b2).elim
  · have e : rd xs s = rd xs t := by omega
    rw [← q, ← e, c1] at c2
    rcases Nat.lt_trichotomy s t with z | z | z
    · have := before_lt xs (rd xs s) z h1 rfl
      omega
    · exact z
    · have := before_lt xs (rd xs s) z g1 e.symm
      omega
  · obtain ⟨d, hd⟩ : ∃ d, (rd xs s).toNat = (rd xs t).toNat + d + 1 := ⟨(rd xs s).toNat - (rd xs t).toNat - 1, by omega⟩
    rw [hd] at b1
    exact (hitB_lt xs bs p _ d (by omega) b2 b1).elim
theorem ofLen_at (xs : List Int) (k : Nat) : ∀ n, n ≤ xs.length → ∀ i, i < (ofLen xs k n).length → ∃ s : Nat, s < n ∧ rd xs s = k ∧ before xs k s = i ∧ rd (ofLen xs k n) i = s := by
  intro n
  induction n with
  | zero => intro _ i hi; simp [ofLen] at hi
  | succ n ih =>
    intro hn i hi
    by_cases e : rd xs n = k
    · rw [ofLen_hit xs k n e] at hi ⊢
      rcases Nat.lt_or_ge i (ofLen xs k n).length with g | g
      · obtain ⟨s, h1, h2, h3, h4⟩ := ih (by omega) i g
        refine ⟨s, by omega, h2, h3, ?_⟩
        rw [← h4, rd_appL g]
      · rw [List.length_append, List.length_cons, List.length_nil] at hi
        have ei : i = (ofLen xs k n).length := by omega
        refine ⟨n, by omega, e, by rw [ei, ofLen_len xs k n (by omega)], ?_⟩
        rw [ei, show (ofLen xs k n).length = (ofLen xs k n).length + 0 from rfl, rd_appR]
        rfl
    · rw [ofLen_miss xs k n e] at hi ⊢
      obtain ⟨s, h1, h2, h3, h4⟩ := ih (by omega) i hi
      exact ⟨s, by omega, h2, h3, h4⟩
theorem symsTo_split (xs : List Int) (j d : Nat) : ∃ r, symsTo xs (j + 1 + d) = symsTo xs j ++ (ofLen xs (j + 1) xs.length ++ r) := by
  induction d with
  | zero => exact ⟨[], by simp [symsTo]⟩
  | succ d ih =>
    obtain ⟨r, h⟩ := ih
    exact ⟨r ++ ofLen xs (j + 1 + d + 1) xs.length, by
      show symsTo xs (j + 1 + d) ++ _ = _
      rw [h, List.append_assoc, List.append_assoc]
      rfl⟩
theorem hit_sym (xs bs : List Int) (p m k : Nat) (h0 : 0 < k) (h15 : k ≤ 15) (hm : k ≤ m) (h : hitB xs bs p k = true) : ∃ s : Nat, Hit xs bs p m s ∧ rd xs s = k ∧ symAt xs bs p k = s := by
  rw [hitB_iff, rd_cntOf_pos xs k h0 (by omega)] at h
  obtain ⟨i, hi⟩ : ∃ i : Nat, (codeTo bs p k : Int) = firstAt (cntOf xs) k + i := ⟨((codeTo bs p k : Int) - firstAt (cntOf xs) k).toNat, by omega⟩
  have hlen := ofLen_len xs k xs.length (Nat.le_refl _)
  obtain ⟨s, h1, h2, h3, h4⟩ := ofLen_at xs k xs.length (Nat.le_refl _) i (by omega)
  refine ⟨s, ⟨h1, by omega, by omega, by omega, ?_⟩, h2, ?_⟩
  · unfold codeAt nextCode
    rw [if_pos ⟨by omega, by omega⟩, h2, Int.toNat_natCast, hi, h3]
  · obtain ⟨j, rfl⟩ : ∃ j, k = j + 1 := ⟨k - 1, by omega⟩
    obtain ⟨r, hr⟩ := symsTo_split xs j (15 - (j + 1))
    rw [show j + 1 + (15 - (j + 1)) = 15 from by omega] at hr
    unfold symAt
    rw [show ((codeTo bs p (j + 1) : Int) - firstAt (cntOf xs) (j + 1)).toNat = i from by omega, hr, Nat.add_sub_cancel, ← h4, rd_appR, rd_appL (by omega)]
theorem Next_hit (h r base : Nat) (A : Option Addr) (len cap p : Nat) (xs bs : List Int) (w : World) (hC : Coder w base h xs) (hxs : xs.length ≤ 1000000) (hR : RdrAt w r A len cap p) (hB : Rd w .u8 A len bs) (hb : ∀ j, j < len → 0 ≤ rd bs j ∧ rd bs j ≤ 255) (hne : ∀ b o, A = some ⟨b, o, none⟩ → b ≠ r) (hlen : len ≤ 1000000) (hp : p ≤ 8 * len) (hhr : h ≠ r) :
    Calls Tryd.prog 121 #[.pointer (some ⟨h, 0, none⟩), .pointer (some ⟨r, 0, none⟩)] w fun e w' =>
      ((∃ s : Nat, Hit xs bs p (8 * len - p) s ∧ e = .returned (.tuple #[.int .i64 s, .bool true]) ∧ RdrAt w' r A len cap (p + (rd xs s).toNat)) ∨
       ((∀ s, ¬ Hit xs bs p (8 * len - p) s) ∧ e = .returned (.tuple #[.int .i64 0, .bool false]) ∧ ∃ q, q ≤ 8 * len ∧ RdrAt w' r A len cap q)) ∧ w.grownBy w' (some r) := by
  refine (Next_calls h r base A len cap p xs bs w hC hxs hR hB hb hne hlen hp hhr).mono ?_
  rintro e w1 ⟨h1 | h1, hg⟩
  · obtain ⟨k, k0, k15, kp, kno, kh, rfl, kr⟩ := h1
    obtain ⟨s, s1, s2, s3⟩ := hit_sym xs bs p (8 * len - p) k k0 k15 (by omega) kh
    rw [s3]
    exact ⟨.inl ⟨s, s1, rfl, by rw [s2]; exact kr⟩, hg⟩
  · obtain ⟨k, k15, kp, kno, kk, rfl, kr⟩ := h1
    refine ⟨.inr ⟨fun s hs => ?_, rfl, _, by omega, kr⟩, hg⟩
    have hb1 := hs.b
    obtain ⟨_, g2, g3, g4, _⟩ := hs
    rw [kno _ (by omega) (by omega)] at hb1
    cases hb1
end Go.Proofs.YtendohnkhbgfbaaDoor
/-
  What lengths the bits tell, symbol by symbol (no program).
-/
namespace Go.Proofs.YtendohnkhbgfbaaDoor
open Go.RowKit

instance hitDec (xs bs : List Int) (p m s : Nat) : Decidable (Hit xs bs p m s) := by unfold Hit; infer_instance
/-- The symbol that stands at a place. -/
def nextS (xs bs : List Int) (p m : Nat) : Option Nat := (List.range xs.length).find? fun s => decide (Hit xs bs p m s)
theorem nextS_hit {xs bs : List Int} {p m s : Nat} (h : Hit xs bs p m s) : nextS xs bs p m = some s := by
  cases hf : nextS xs bs p m with
  | none =>
    have := List.find?_eq_none.1 hf s (List.mem_range.2 h.1)
    simp [h] at this
  | some t =>
    have := List.find?_some hf
    rw [h.one (of_decide_eq_true this)]
theorem nextS_none {xs bs : List Int} {p m : Nat} (h : ∀ s, ¬ Hit xs bs p m s) : nextS xs bs p m = none := by
  rw [nextS, List.find?_eq_none]
  intro s _
  simp [h s]
theorem numAt_cons (bs : List Int) (p k : Nat) : numAt bs p (k + 1) = bitAt bs p + 2 * numAt bs (p + 1) k := by
  induction k with
  | zero => simp [numAt]
  | succ k ih =>
    have e : numAt bs p (k + 1 + 1) = numAt bs p (k + 1) + bitAt bs (p + (k + 1)) * 2 ^ (k + 1) := rfl
    have e2 : numAt bs (p + 1) (k + 1) = numAt bs (p + 1) k + bitAt bs (p + 1 + k) * 2 ^ k := rfl
    rw [e, ih, e2, Nat.mul_add, Nat.pow_succ, show p + 1 + k = p + (k + 1) from by omega, Nat.add_assoc, Nat.mul_comm (2 ^ k) 2, Nat.mul_left_comm]
def sizeS (s : Nat) : Nat := if s = 16 then 2 else if s = 17 then 3 else 7
def leastS (s : Nat) : Nat := if s = 16 then 3 else if s = 17 then 3 else 11
theorem sizeS_le (s : Nat) : sizeS s ≤ 7 := by unfold sizeS; split <;> (try split) <;> omega
theorem leastS_le (s : Nat) : 3 ≤ leastS s ∧ leastS s ≤ 11 := by unfold leastS; split <;> (try split) <;> omega
theorem numAt_size (bs : List Int) (p s : Nat) : numAt bs p (sizeS s) ≤ 128 := by
  have h := numAt_lt bs p (sizeS s)
  have : (2 : Nat) ^ sizeS s ≤ 2 ^ 7 := Nat.pow_le_pow_right (by omega) (sizeS_le s)
  have : (2 : Nat) ^ 7 = 128 := by decide
  omega
/-- How often something comes again. -/
def manyS (bs : List Int) (q s : Nat) : Nat := leastS s + numAt bs q (sizeS s)
def valueS (out : List Int) (s : Nat) : Int := if s = 16 then rd out (out.length - 1) else 0
/-- So many lengths, and where the reader stands then. -/
def listS (xs bs : List Int) (T n : Nat) : Nat → Nat → List Int → Option (List Int × Nat)
  | 0, _, _ => none
  | f + 1, p, out =>
    if n ≤ out.length then some (out, p) else
    match nextS xs bs p (T - p) with
    | none => none
    | some s =>
      if s < 16 then listS xs bs T n f (p + (rd xs s).toNat) (out ++ [(s : Int)]) else
      if s = 16 ∧ out.length = 0 then none else
      if T < p + (rd xs s).toNat + sizeS s then none else
      if n < out.length + manyS bs (p + (rd xs s).toNat) s then none else
      listS xs bs T n f (p + (rd xs s).toNat + sizeS s) (out ++ List.replicate (manyS bs (p + (rd xs s).toNat) s) (valueS out s))
theorem listS_done {xs bs : List Int} {T n f p : Nat} {out : List Int} (hf : 0 < f) (h : n ≤ out.length) : listS xs bs T n f p out = some (out, p) := by
  cases f with
  | zero => omega
  | succ f => unfold listS; rw [if_pos h]
theorem listS_no {xs bs : List Int} {T n f p : Nat} {out : List Int} (h : ¬ n ≤ out.length) (hn : ∀ s, ¬ Hit xs bs p (T - p) s) : listS xs bs T n f p out = none := by
  cases f with
  | zero => rfl
  | succ f => unfold listS; rw [if_neg h, nextS_none hn]
theorem listS_low {xs bs : List Int} {T n f p s : Nat} {out : List Int} (h : ¬ n ≤ out.length) (hs : Hit xs bs p (T - p) s) (h16 : s < 16) : listS xs bs T n (f + 1) p out = listS xs bs T n f (p + (rd xs s).toNat) (out ++ [(s : Int)]) := by
  rw [listS, if_neg h, nextS_hit hs]
  simp only [if_pos h16]
theorem listS_first {xs bs : List Int} {T n f p s : Nat} {out : List Int} (h : ¬ n ≤ out.length) (hs : Hit xs bs p (T - p) s) (h16 : s = 16) (h0 : out.length = 0) : listS xs bs T n f p out = none := by
  cases f with
  | zero => rfl
  | succ f =>
    rw [listS, if_neg h, nextS_hit hs]
    simp only [if_neg (show ¬ s < 16 by omega), if_pos (And.intro h16 h0)]
theorem listS_short {xs bs : List Int} {T n f p s : Nat} {out : List Int} (h : ¬ n ≤ out.length) (hs : Hit xs bs p (T - p) s) (h16 : ¬ s < 16) (hT : T < p + (rd xs s).toNat + sizeS s) : listS xs bs T n f p out = none := by
  cases f with
  | zero => rfl
  | succ f =>
    rw [listS, if_neg h, nextS_hit hs]
    simp only [if_neg h16, if_pos hT]
    split <;> rfl
theorem listS_long {xs bs : List Int} {T n f p s : Nat} {out : List Int} (h : ¬ n ≤ out.length) (hs : Hit xs bs p (T - p) s) (h16 : ¬ s < 16) (hm : n < out.length + manyS bs (p + (rd xs s).toNat) s) : listS xs bs T n f p out = none := by
  cases f with
  | zero => rfl
  | succ f =>
    rw [listS, if_neg h, nextS_hit hs]
    simp only [if_neg h16, if_pos hm]
    split
    · rfl
    · split <;> rfl
theorem listS_more {xs bs : List Int} {T n f p s : Nat} {out : List Int} (h : ¬ n ≤ out.length) (hs : Hit xs bs p (T - p) s) (h16 : ¬ s < 16) (h0 : ¬ (s = 16 ∧ out.length = 0)) (hT : ¬ T < p + (rd xs s).toNat + sizeS s) (hm : ¬ n < out.length + manyS bs (p + (rd xs s).toNat) s) :
    listS xs bs T n (f + 1) p out = listS xs bs T n f (p + (rd xs s).toNat + sizeS s) (out ++ List.replicate (manyS bs (p + (rd xs s).toNat) s) (valueS out s)) := by
  rw [listS, if_neg h, nextS_hit hs]
  simp only [if_neg h16, if_neg h0, if_neg hT, if_neg hm]
/-- The order of the items' lengths. -/
def ordL : List Nat := [16, 17, 18, 0, 8, 7, 9, 6, 10, 5, 11, 4, 12, 3, 13, 2, 14, 1, 15]
/-- The items' lengths, so many of them. -/
def lensS (bs : List Int) (p : Nat) : Nat → List Int
  | 0 => List.replicate 19 0
  | i + 1 => (lensS bs p i).set (ordL.getD i 0) (numAt bs (p + 3 * i) 3 : Nat)
theorem lensS_length (bs : List Int) (p i : Nat) : (lensS bs p i).length = 19 := by
  induction i with
  | zero => simp [lensS]
  | succ i ih => simp [lensS, ih]
theorem ordL_lt (i : Nat) : ordL.getD i 0 < 19 := by
  rcases Nat.lt_or_ge i 19 with h | h
  · have key : ∀ i : Nat, i < 19 → ordL.getD i 0 < 19 := by decide
    exact key i h
  · rw [List.getD_eq_getElem?_getD, List.getElem?_eq_none (by simpa [ordL] using h)]
    decide
/-- The lengths of both codes, and where the reader stands then. -/
def getS (bs : List Int) (T p : Nat) : Option (List Int × List Int × Nat) :=
  if T < p + 14 then none else
  if 29 < numAt bs p 5 ∨ 29 < numAt bs (p + 5) 5 then none else
  if T < p + 14 + 3 * (numAt bs (p + 10) 4 + 4) then none else
  if rightB (lensS bs (p + 14) (numAt bs (p + 10) 4 + 4)) = false then none else
  match listS (lensS bs (p + 14) (numAt bs (p + 10) 4 + 4)) bs T (numAt bs p 5 + 257 + (numAt bs (p + 5) 5 + 1)) (numAt bs p 5 + 257 + (numAt bs (p + 5) 5 + 1) + 1) (p + 14 + 3 * (numAt bs (p + 10) 4 + 4)) [] with
  | none => none
  | some (l, q) => if rd l 256 = 0 then none else some (l.take (numAt bs p 5 + 257), l.drop (numAt bs p 5 + 257), q)
theorem listS_len {xs bs : List Int} {T n : Nat} : ∀ {f p : Nat} {out l : List Int} {q : Nat}, out.length ≤ n → p ≤ T → listS xs bs T n f p out = some (l, q) → l.length = n ∧ q ≤ T := by
  intro f
  induction f with
  | zero => intro p out l q _ _ h; cases h
  | succ f ih =>
    intro p out l q hl hp h
    by_cases hn : n ≤ out.length
    · rw [listS_done (by omega) hn] at h
      cases h
      exact ⟨by omega, hp⟩
    · by_cases hx : ∃ s, Hit xs bs p (T - p) s
      · obtain ⟨s, hs⟩ := hx
        have hm := hs.2.2.2.1
        by_cases h16 : s < 16
        · rw [listS_low hn hs h16] at h
          exact ih (by simp; omega) (by omega) h
        · by_cases h0 : s = 16 ∧ out.length = 0
          · rw [listS_first hn hs h0.1 h0.2] at h; cases h
          · by_cases hT : T < p + (rd xs s).toNat + sizeS s
            · rw [listS_short hn hs h16 hT] at h; cases h
            · by_cases hlong : n < out.length + manyS bs (p + (rd xs s).toNat) s
              · rw [listS_long hn hs h16 hlong] at h; cases h
              · rw [listS_more hn hs h16 h0 hT hlong] at h
                exact ih (by simp; omega) (by omega) h
      · rw [listS_no hn (fun s hs => hx ⟨s, hs⟩)] at h
        cases h
theorem getS_at {bs : List Int} {T p : Nat} {l1 l2 : List Int} {q : Nat} (_hp : p ≤ T) (h : getS bs T p = some (l1, l2, q)) : q ≤ T := by
  unfold getS at h
  split at h
  · cases h
  · split at h
    · cases h
    · split at h
      · cases h
      · split at h
        · cases h
        · split at h
          · cases h
          · next l q' hl =>
            split at h
            · cases h
            · simp only [Option.some.injEq, Prod.mk.injEq] at h
              obtain ⟨_, _, rfl⟩ := h
              exact (listS_len (out := []) (by simp) (by omega) hl).2
theorem getS_small {bs : List Int} {T p : Nat} {l1 l2 : List Int} {q : Nat} (h : getS bs T p = some (l1, l2, q)) : l1.length + l2.length ≤ 1000 := by
  unfold getS at h
  split at h
  · cases h
  · split at h
    · cases h
    · split at h
      · cases h
      · split at h
        · cases h
        · split at h
          · cases h
          · next l q' hl =>
            split at h
            · cases h
            · simp only [Option.some.injEq, Prod.mk.injEq] at h
              obtain ⟨rfl, rfl, _⟩ := h
              have := (listS_len (out := []) (by simp) (by omega) hl).1
              have a1 := numAt_lt bs p 5
              have a2 := numAt_lt bs (p + 5) 5
              rw [List.length_take, List.length_drop]
              omega
end Go.Proofs.YtendohnkhbgfbaaDoor
/-
  Plain: the tokens that bytes are told by: the longest match among all distances, the nearest of these; the same by a chain of places where three bytes stood.
-/
namespace Go.Proofs.YtendohnkhbgfbaaDoor
open Go.RowKit

def sameFrom (b : List Int) (p q : Nat) : Nat → Nat → Nat
  | 0, n => n
  | f + 1, n => if q + n < b.length ∧ rd b (p + n) = rd b (q + n) then sameFrom b p q f (n + 1) else n
/-- How many bytes at two places are the same, at most 258. -/
def sameN (b : List Int) (p q : Nat) : Nat := sameFrom b p q 258 0
theorem sameFrom_rng (b : List Int) (p q : Nat) : ∀ f n, n ≤ sameFrom b p q f n ∧ sameFrom b p q f n ≤ n + f := by
  intro f
  induction f with
  | zero => intro n; exact ⟨Nat.le_refl _, Nat.le_refl _⟩
  | succ f ih =>
    intro n
    unfold sameFrom
    split
    · have := ih (n + 1); omega
    · omega
theorem sameN_le (b : List Int) (p q : Nat) : sameN b p q ≤ 258 := by
  have := (sameFrom_rng b p q 258 0).2
  unfold sameN
  omega
theorem sameFrom_eq (b : List Int) (p q : Nat) : ∀ f n j, n ≤ j → j < sameFrom b p q f n → q + j < b.length ∧ rd b (p + j) = rd b (q + j) := by
  intro f
  induction f with
  | zero => intro n j h1 h2; unfold sameFrom at h2; omega
  | succ f ih =>
    intro n j h1 h2
    unfold sameFrom at h2
    split at h2
    · rename_i hc
      rcases Nat.lt_or_ge n j with g | g
      · exact ih (n + 1) j g h2
      · obtain rfl : j = n := by omega
        exact hc
    · omega
theorem sameN_eq (b : List Int) (p q j : Nat) (h : j < sameN b p q) : q + j < b.length ∧ rd b (p + j) = rd b (q + j) := sameFrom_eq b p q 258 0 j (Nat.zero_le _) h
theorem sameN_three {b : List Int} {p q : Nat} (hq : q + 3 ≤ b.length) (h0 : rd b p = rd b q) (h1 : rd b (p + 1) = rd b (q + 1)) (h2 : rd b (p + 2) = rd b (q + 2)) : 3 ≤ sameN b p q := by
  have e : sameN b p q = sameFrom b p q 255 3 := by
    unfold sameN
    show sameFrom b p q (257 + 1) 0 = _
    rw [sameFrom, if_pos ⟨by omega, h0⟩]
    show sameFrom b p q (256 + 1) 1 = _
    rw [sameFrom, if_pos ⟨by omega, h1⟩]
    show sameFrom b p q (255 + 1) 2 = _
    rw [sameFrom, if_pos ⟨by omega, h2⟩]
  rw [e]
  exact (sameFrom_rng b p q 255 3).1
def bestTo (b : List Int) (i : Nat) : Nat → Nat × Nat
  | 0 => (0, 0)
  | d + 1 => if (bestTo b i d).1 < sameN b (i - (d + 1)) i then (sameN b (i - (d + 1)) i, d + 1) else bestTo b i d
/-- The longest match at a place, the nearest of these. -/
def bestM (b : List Int) (i : Nat) : Nat × Nat := bestTo b i (min i 32768)
theorem bestTo_le (b : List Int) (i : Nat) : ∀ d, (bestTo b i d).1 ≤ 258 ∧ (bestTo b i d).2 ≤ d := by
  intro d
  induction d with
  | zero => exact ⟨Nat.zero_le _, Nat.le_refl _⟩
  | succ d ih =>
    unfold bestTo
    split
    · exact ⟨sameN_le _ _ _, Nat.le_refl _⟩
    · exact ⟨ih.1, Nat.le_succ_of_le ih.2⟩
theorem bestTo_match (b : List Int) (i : Nat) : ∀ d, 0 < (bestTo b i d).1 → 1 ≤ (bestTo b i d).2 ∧ (bestTo b i d).1 = sameN b (i - (bestTo b i d).2) i := by
  intro d
  induction d with
  | zero => intro h; exact absurd h (Nat.lt_irrefl _)
  | succ d ih =>
    unfold bestTo
    split
    · intro _; exact ⟨Nat.succ_le_succ (Nat.zero_le _), rfl⟩
    · exact ih
/-- What a match of fewer than three bytes counts for: nothing. -/
def cl (m : Nat × Nat) : Nat × Nat := if m.1 < 3 then (0, 0) else m
theorem cl_step (b : List Int) (i d : Nat) : cl (bestTo b i (d + 1)) = if 3 ≤ sameN b (i - (d + 1)) i ∧ (cl (bestTo b i d)).1 < sameN b (i - (d + 1)) i then (sameN b (i - (d + 1)) i, d + 1) else cl (bestTo b i d) := by
  generalize hs : sameN b (i - (d + 1)) i = s
  generalize hm : bestTo b i d = m
  have e : bestTo b i (d + 1) = if m.1 < s then (s, d + 1) else m := by
    show (if (bestTo b i d).1 < sameN b (i - (d + 1)) i then (sameN b (i - (d + 1)) i, d + 1) else bestTo b i d) = _
    rw [hs, hm]
  rw [e]
  unfold cl
  rcases Nat.lt_or_ge m.1 s with g | g <;> rcases Nat.lt_or_ge m.1 3 with g3 | g3 <;> rcases Nat.lt_or_ge s 3 with s3 | s3
  · rw [if_pos g, if_pos s3, if_pos g3, if_neg (by omega)]
  · rw [if_pos g, if_neg (Nat.not_lt.2 s3), if_pos g3, if_pos ⟨s3, by show 0 < s; omega⟩]
  · omega
  · rw [if_pos g, if_neg (Nat.not_lt.2 s3), if_neg (Nat.not_lt.2 g3), if_pos ⟨s3, g⟩]
  · rw [if_neg (Nat.not_lt.2 g), if_pos g3, if_neg (by omega)]
  · omega
  · rw [if_neg (Nat.not_lt.2 g), if_neg (Nat.not_lt.2 g3), if_neg (by omega)]
  · rw [if_neg (Nat.not_lt.2 g), if_neg (Nat.not_lt.2 g3), if_neg (fun h => absurd h.2 (Nat.not_lt.2 g))]
theorem cl_gap (b : List Int) (i c : Nat) (hc : c ≤ i) : ∀ k, k ≤ c → (∀ p, c - k ≤ p → p < c → sameN b p i < 3) → cl (bestTo b i (i - (c - k))) = cl (bestTo b i (i - c)) := by
  intro k
  induction k with
  | zero => intro _ _; rfl
  | succ k ih =>
    intro hk h
    rw [← ih (by omega) (fun p h1 h2 => h p (by omega) h2)]
    have e : i - (c - (k + 1)) = (i - (c - k)) + 1 := by omega
    rw [e, cl_step]
    have e2 : i - (i - (c - k) + 1) = c - (k + 1) := by omega
    rw [e2, if_neg (fun hh => absurd hh.1 (Nat.not_le.2 (h (c - (k + 1)) (Nat.le_refl _) (by omega))))]
theorem best_full (b : List Int) (i d : Nat) (h : (bestTo b i d).1 = 258) : ∀ k, bestTo b i (d + k) = bestTo b i d := by
  intro k
  induction k with
  | zero => rfl
  | succ k ih =>
    show (if (bestTo b i (d + k)).1 < sameN b (i - (d + k + 1)) i then (sameN b (i - (d + k + 1)) i, d + k + 1) else bestTo b i (d + k)) = _
    rw [ih, if_neg]
    have := sameN_le b (i - (d + k + 1)) i
    omega
/-- Where three bytes stood last ahead of a place; -1: nowhere. -/
def lastAt (b : List Int) (x y z : Int) : Nat → Int
  | 0 => -1
  | p + 1 => if p + 3 ≤ b.length ∧ rd b p = x ∧ rd b (p + 1) = y ∧ rd b (p + 2) = z then (p : Int) else lastAt b x y z p
def prevAt (b : List Int) (p : Nat) : Int := if p + 3 ≤ b.length then lastAt b (rd b p) (rd b (p + 1)) (rd b (p + 2)) p else -1
theorem lastAt_cases (b : List Int) (x y z : Int) : ∀ c, (lastAt b x y z c = -1 ∧ ∀ p, p < c → p + 3 ≤ b.length → ¬ (rd b p = x ∧ rd b (p + 1) = y ∧ rd b (p + 2) = z)) ∨ ∃ p : Nat, p < c ∧ lastAt b x y z c = p ∧ p + 3 ≤ b.length ∧ (rd b p = x ∧ rd b (p + 1) = y ∧ rd b (p + 2) = z) ∧ ∀ q, p < q → q < c → q + 3 ≤ b.length → ¬ (rd b q = x ∧ rd b (q + 1) = y ∧ rd b (q + 2) = z) := by
  intro c
  induction c with
  | zero => exact .inl ⟨rfl, fun p h => by omega⟩
  | succ c ih =>
    unfold lastAt
    split
    · rename_i h
      exact .inr ⟨c, Nat.lt_succ_self _, rfl, h.1, h.2, fun q h1 h2 => by omega⟩
    · rename_i h
      rcases ih with ⟨e, h2⟩ | ⟨p, hp, e, h3, h4, h5⟩
      · refine .inl ⟨e, fun p hp h3 hh => ?_⟩
        rcases Nat.lt_or_ge p c with g | g
        · exact h2 p g h3 hh
        · obtain rfl : p = c := by omega
          exact h ⟨h3, hh⟩
      · refine .inr ⟨p, by omega, e, h3, h4, fun q h6 h7 h8 hh => ?_⟩
        rcases Nat.lt_or_ge q c with g | g
        · exact h5 q h6 g h8 hh
        · obtain rfl : q = c := by omega
          exact h ⟨h8, hh⟩
/-- The chain's state: all places from c on are looked at. -/
structure Find (b : List Int) (i c : Nat) (at' : Int) (m : Nat × Nat) : Prop where
  le : c ≤ i
  far : i - c ≤ 32768
  last : at' = lastAt b (rd b i) (rd b (i + 1)) (rd b (i + 2)) c
  best : m = cl (bestTo b i (i - c))
theorem not_key {b : List Int} {p i : Nat} (hp : p < i) (hi : i + 3 ≤ b.length) (h : p + 3 ≤ b.length → ¬ (rd b p = rd b i ∧ rd b (p + 1) = rd b (i + 1) ∧ rd b (p + 2) = rd b (i + 2))) : sameN b p i < 3 := by
  refine Nat.not_le.1 fun hn => ?_
  have e0 := (sameN_eq b p i 0 (by omega)).2
  have e1 := (sameN_eq b p i 1 (by omega)).2
  have e2 := (sameN_eq b p i 2 (by omega)).2
  exact h (by omega) ⟨e0, e1, e2⟩
theorem Find.start (b : List Int) (i : Nat) : Find b i i (lastAt b (rd b i) (rd b (i + 1)) (rd b (i + 2)) i) (0, 0) :=
  ⟨Nat.le_refl _, by omega, rfl, by rw [Nat.sub_self]; rfl⟩
theorem Find.next {b : List Int} {i c p : Nat} {m : Nat × Nat} (hi : i + 3 ≤ b.length) (h : Find b i c (p : Int) m) (hf : i - p ≤ 32768) :
    p < c ∧ p + 3 ≤ b.length ∧ Find b i p (prevAt b p) (if m.1 < sameN b p i then (sameN b p i, i - p) else m) := by
  rcases lastAt_cases b (rd b i) (rd b (i + 1)) (rd b (i + 2)) c with ⟨e, _⟩ | ⟨p', hp, e, h3, h4, h5⟩
  · have := h.last.trans e; omega
  · have e0 : (p : Int) = p' := h.last.trans e
    obtain rfl : p = p' := by omega
    refine ⟨hp, h3, by have := h.le; omega, hf, ?_, ?_⟩
    · unfold prevAt
      rw [if_pos h3, h4.1, h4.2.1, h4.2.2]
    · have hle := h.le
      have g := cl_gap b i c h.le (c - (p + 1)) (by omega) (fun q h6 h7 => not_key (by omega) hi (fun h8 => h5 q (by omega) h7 h8))
      have e1 : i - (c - (c - (p + 1))) = i - p - 1 := by omega
      rw [e1, ← h.best] at g
      have s3 := sameN_three (p := p) hi h4.1 h4.2.1 h4.2.2
      have k := cl_step b i (i - p - 1)
      have e2 : i - p - 1 + 1 = i - p := by omega
      have e3 : i - (i - p) = p := by omega
      rw [e2, e3, g] at k
      rw [k]
      by_cases hm : m.1 < sameN b p i
      · rw [if_pos hm, if_pos ⟨s3, hm⟩]
      · rw [if_neg hm, if_neg (fun hh => hm hh.2)]
theorem Find.stop {b : List Int} {i c : Nat} {at' : Int} {m : Nat × Nat} (hi : i + 3 ≤ b.length) (h : Find b i c at' m) (he : at' < 0 ∨ 32768 < (i : Int) - at' ∨ 258 ≤ m.1) : m = cl (bestM b i) := by
  have hle := h.le
  have hfar := h.far
  unfold bestM
  by_cases hm : 258 ≤ m.1
  · have hb := h.best
    have h258 : (bestTo b i (i - c)).1 = 258 := by
      have l := (bestTo_le b i (i - c)).1
      rw [hb] at hm
      unfold cl at hm
      split at hm
      · exact absurd hm (by decide)
      · omega
    have e : min i 32768 = (i - c) + (min i 32768 - (i - c)) := by omega
    rw [e, best_full b i _ h258, hb]
  · rcases lastAt_cases b (rd b i) (rd b (i + 1)) (rd b (i + 2)) c with ⟨e, h2⟩ | ⟨p, hp, e, h3, h4, h5⟩
    · have g := cl_gap b i c hle (c - (i - min i 32768)) (by omega) (fun q h6 h7 => not_key (by omega) hi (fun h8 => h2 q h7 h8))
      have e1 : i - (c - (c - (i - min i 32768))) = min i 32768 := by omega
      rw [e1] at g
      rw [g, h.best]
    · have ea := h.last.trans e
      have hpf : 32768 < i - p := by omega
      have g := cl_gap b i c hle (c - (i - 32768)) (by omega) (fun q h6 h7 => not_key (by omega) hi (fun h8 => h5 q (by omega) h7 h8))
      have e1 : i - (c - (c - (i - 32768))) = min i 32768 := by omega
      rw [e1] at g
      rw [g, h.best]
theorem best_short {b : List Int} {i : Nat} (hi : ¬ i + 3 ≤ b.length) : cl (bestM b i) = (0, 0) := by
  unfold cl
  rw [if_pos]
  refine Nat.not_le.1 fun h => ?_
  have m := bestTo_match b i (min i 32768) (by unfold bestM at h; omega)
  unfold bestM at h
  have := (sameN_eq b (i - (bestTo b i (min i 32768)).2) i 2 (by omega)).1
  omega
/-- The tokens from a place on. -/
def pressFrom (b : List Int) : Nat → Nat → List (Int × Int × Int)
  | 0, _ => []
  | f + 1, i => if i < b.length then (if (bestM b i).1 < 3 then (rd b i, 0, 0) :: pressFrom b f (i + 1) else (0, ((bestM b i).1 : Int), ((bestM b i).2 : Int)) :: pressFrom b f (i + (bestM b i).1)) else []
def pressL (b : List Int) : List (Int × Int × Int) := pressFrom b b.length 0
theorem pressFrom_end (b : List Int) (f i : Nat) (h : b.length ≤ i) : pressFrom b f i = [] := by
  cases f with
  | zero => rfl
  | succ f => unfold pressFrom; rw [if_neg (Nat.not_lt.2 h)]
/-- A match as it may be. -/
theorem bestM_rng {b : List Int} {i : Nat} (h : 3 ≤ (bestM b i).1) : (bestM b i).1 ≤ 258 ∧ 1 ≤ (bestM b i).2 ∧ (bestM b i).2 ≤ 32768 ∧ (bestM b i).2 ≤ i ∧ i + (bestM b i).1 ≤ b.length ∧ ∀ j, j < (bestM b i).1 → rd b (i + j) = rd b (i - (bestM b i).2 + j) := by
  have l := bestTo_le b i (min i 32768)
  have m := bestTo_match b i (min i 32768) (by unfold bestM at h; omega)
  unfold bestM at h ⊢
  refine ⟨l.1, m.1, by omega, by omega, ?_, fun j hj => ?_⟩
  · have := (sameN_eq b (i - (bestTo b i (min i 32768)).2) i ((bestTo b i (min i 32768)).1 - 1) (by omega)).1
    omega
  · exact (sameN_eq b (i - (bestTo b i (min i 32768)).2) i j (by omega)).2.symm
theorem pressFrom_ok {b : List Int} (hb : ∀ j, j < b.length → 0 ≤ rd b j ∧ rd b j ≤ 255) : ∀ f i, ∀ t ∈ pressFrom b f i, (t.2.1 = 0 ∧ t.2.2 = 0 ∧ 0 ≤ t.1 ∧ t.1 ≤ 255) ∨ (t.1 = 0 ∧ 3 ≤ t.2.1 ∧ t.2.1 ≤ 258 ∧ 1 ≤ t.2.2 ∧ t.2.2 ≤ 32768) := by
  intro f
  induction f with
  | zero => intro i t ht; cases ht
  | succ f ih =>
    intro i t ht
    unfold pressFrom at ht
    split at ht
    · rename_i hi
      split at ht
      · rcases List.mem_cons.1 ht with rfl | h
        · exact .inl ⟨rfl, rfl, hb i hi⟩
        · exact ih _ t h
      · rename_i h3
        rcases List.mem_cons.1 ht with rfl | h
        · have r := bestM_rng (b := b) (i := i) (by omega)
          exact .inr ⟨rfl, by show (3 : Int) ≤ ((bestM b i).1 : Int); omega, by show ((bestM b i).1 : Int) ≤ 258; omega, by show (1 : Int) ≤ ((bestM b i).2 : Int); omega, by show ((bestM b i).2 : Int) ≤ 32768; omega⟩
        · exact ih _ t h
    · cases ht
theorem pressFrom_length (b : List Int) : ∀ f i, (pressFrom b f i).length ≤ f := by
  intro f
  induction f with
  | zero => intro i; exact Nat.le_refl _
  | succ f ih =>
    intro i
    unfold pressFrom
    split
    · split
      · rw [List.length_cons]; exact Nat.succ_le_succ (ih _)
      · rw [List.length_cons]; exact Nat.succ_le_succ (ih _)
    · exact Nat.zero_le _
end Go.Proofs.YtendohnkhbgfbaaDoor
