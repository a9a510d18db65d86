/-
  The walks of package bits: Reader.
-/
import Derived.Test.YtempgkglhgelkaaBitsP
import Derived.IntWalk
import Derived.BigQuiet
import Derived.Deep.RegionWith
import Derived.Deep.RegionHeld3
namespace Go.Proofs.Ytempgkglhgelkaa
open Go.RowKit

/-- A reader of these bytes, that stands at this bit. -/
def RdrAt (w : World) (r : Nat) (A : Option Addr) (len cap : Nat) (at' : Nat) : Prop := w.heap[r]? = some (.cells #[.slice A len cap, .int .i64 at'] 67 (0, 0))
theorem RdrAt.lt {w : World} {r : Nat} {A : Option Addr} {len cap at' : Nat} (h : RdrAt w r A len cap at') : r < w.heap.size := (Array.getElem?_eq_some_iff.1 h).1
theorem RdrAt.c0 {w : World} {r : Nat} {A : Option Addr} {len cap at' : Nat} (h : RdrAt w r A len cap at') : w.cell? ⟨r, 0, none⟩ = some (.slice A len cap) := by
  rw [cell_of_row w r 0 _ _ (0, 0) h]; rfl
theorem RdrAt.c1 {w : World} {r : Nat} {A : Option Addr} {len cap at' : Nat} (h : RdrAt w r A len cap at') : w.cell? ⟨r, 1, none⟩ = some (.int .i64 at') := by
  rw [cell_of_row w r 1 _ _ (0, 0) h]; rfl
theorem RdrAt.frozen {w : World} {r : Nat} {A : Option Addr} {len cap at' : Nat} (h : RdrAt w r A len cap at') (j : Nat) : w.frozen? ⟨r, j, none⟩ = false := frozen_of_row w r j _ _ h
theorem RdrAt.set {w : World} {r : Nat} {A : Option Addr} {len cap at' : Nat} (h : RdrAt w r A len cap at') (x : Nat) : RdrAt (w.setCell ⟨r, 1, none⟩ (.int .i64 x)) r A len cap x := by
  unfold RdrAt
  rw [heap_setCell_same w r 1 _ _ _ h]
  rfl
theorem RdrAt.keep {w w' : World} {r : Nat} {A : Option Addr} {len cap at' : Nat} (h : RdrAt w r A len cap at') (hb : Below w.heap.size w w') : RdrAt w' r A len cap at' := (hb.block r h.lt).trans h

set_option maxHeartbeats 1000000 in
theorem Left_calls (r : Nat) (A : Option Addr) (len cap at' : Nat) (w : World) (hR : RdrAt w r A len cap at') (hlen : len ≤ 140737488355328) (hat : at' ≤ 8 * len) :
    Calls Try.prog 30 #[.pointer (some ⟨r, 0, none⟩)] w fun e w' => e = .returned (.int .i64 (8 * len - at')) ∧ Below w.heap.size w w' := by
  have c0 := hR.c0
  have c1 := hR.c1
  clear hR
  have s1 : IntKind.i64.wrap (8 * (len : Int)) = 8 * len := IntWalk.i64_in _ (by omega)
  have s2 : IntKind.i64.wrap (8 * (len : Int) - at') = 8 * len - at' := IntWalk.i64_in _ (by omega)
  go_enter Try.func30, Try.ntmps30
  go_wp2
  go_quiet (fail)
  go_wp2
  go_ret
  exact ⟨rfl, (Below.refl _ _).trans ⟨rfl, rfl, rfl, Nat.le_refl _, fun _ _ => rfl⟩⟩

theorem Rd.grown {w w1 : World} {k : IntKind} {A : Option Addr} {n : Nat} {xs : List Int} (h : Rd w k A n xs) {r : Nat} (hg : w.grownBy w1 (some r)) (hne : ∀ b o, A = some ⟨b, o, none⟩ → b ≠ r) : Rd w1 k A n xs :=
  ⟨h.1, fun hn => by obtain ⟨b, o, e, hc⟩ := h.2 hn; exact ⟨b, o, e, fun j hj => hg.cell (hc j hj) (by simpa using hne b o e)⟩⟩
theorem grown_below {w w1 w2 : World} {r : Nat} (h : w.grownBy w1 (some r)) (hb : Below w1.heap.size w1 w2) : w.grownBy w2 (some r) :=
  ⟨hb.os.trans h.os, hb.tape.trans h.tape, hb.output.trans h.output, Nat.le_trans h.size hb.size, fun k hk hne => (hb.block k (Nat.lt_of_lt_of_le hk h.size)).trans (h.block k hk hne)⟩
theorem grown_set {w w1 : World} {r : Nat} (h : w.grownBy w1 (some r)) (j : Nat) (v : Value) : w.grownBy (w1.setCell ⟨r, j, none⟩ v) (some r) :=
  ⟨h.os, h.tape, h.output, by simpa using h.size, fun k hk hne => (heap_setCell_other w1 ⟨r, j, none⟩ k v (by intro e; exact hne (by rw [e]))).trans (h.block k hk hne)⟩
theorem grown_refl (w : World) (row : Option Nat) : w.grownBy w row := ⟨rfl, rfl, rfl, Nat.le_refl _, fun _ _ _ => rfl⟩
def bitAt (bs : List Int) (i : Nat) : Nat := (rd bs (i / 8)).toNat / 2 ^ (i % 8) % 2
def numAt (bs : List Int) (at' : Nat) : Nat → Nat
  | 0 => 0
  | i + 1 => numAt bs at' i + bitAt bs (at' + i) * 2 ^ i
theorem bitAt_le (bs : List Int) (i : Nat) : bitAt bs i ≤ 1 := by unfold bitAt; omega
theorem numAt_lt (bs : List Int) (at' i : Nat) : numAt bs at' i < 2 ^ i := by
  induction i with
  | zero => simp [numAt]
  | succ i ih =>
    have h := Nat.mul_le_mul_right (2 ^ i) (bitAt_le bs (at' + i))
    simp only [numAt, Nat.pow_succ]
    omega
theorem bit_step (bs : List Int) (at' k p y : Nat) (hp : p = at' + k) (hy : rd bs (p / 8) = y) (hy2 : y < 256) (hk : k < 60) :
    bits BinOp.or IntKind.u64 ((numAt bs at' k : Nat) : Int) (IntKind.u64.wrap (IntKind.u64.wrap (bits BinOp.and IntKind.u8 ((y : Int) / 2 ^ (p % 8)) 1) * 2 ^ k)) = ((numAt bs at' (k + 1) : Nat) : Int) := by
  have e1 : (y : Int) / 2 ^ (p % 8) = ((y / 2 ^ (p % 8) : Nat) : Int) := by
    rw [Int.natCast_ediv, Int.natCast_pow]
    rfl
  have hd : y / 2 ^ (p % 8) ≤ y := Nat.div_le_self _ _
  have e2 : bitAt bs p = y / 2 ^ (p % 8) % 2 := by unfold bitAt; rw [hy]; rfl
  have hb := bitAt_le bs p
  have hpow : (2 : Nat) ^ k ≤ 2 ^ 60 := Nat.pow_le_pow_right (by omega) (by omega)
  have hp60 : (2 : Nat) ^ 60 = 1152921504606846976 := by decide
  have hm : bitAt bs p * 2 ^ k ≤ 1 * 2 ^ k := Nat.mul_le_mul_right _ hb
  rw [e1, and1_u8 _ (by omega), ← e2, IntWalk.u64_in ((bitAt bs p : Nat) : Int) (by omega)]
  have e3 : ((bitAt bs p : Nat) : Int) * 2 ^ k = ((bitAt bs p * 2 ^ k : Nat) : Int) := by
    rw [Int.natCast_mul, Int.natCast_pow]
    rfl
  rw [e3, IntWalk.u64_in _ (by omega), or_u64_top _ _ _ (numAt_lt bs at' k) hb (by omega)]
  simp only [numAt, hp]
set_option maxHeartbeats 1000000 in
theorem Bits_calls (r : Nat) (A : Option Addr) (len cap at' n : Nat) (bs : List Int) (w : World) (hR : RdrAt w r A len cap at') (hB : Rd w .u8 A len bs) (hb : ∀ j, j < len → 0 ≤ rd bs j ∧ rd bs j ≤ 255) (hne : ∀ b o, A = some ⟨b, o, none⟩ → b ≠ r) (hlen : len ≤ 140737488355328) (hat : at' ≤ 8 * len) (hn : n ≤ 60) (hok : at' + n ≤ 8 * len) :
    Calls Try.prog 37 #[.pointer (some ⟨r, 0, none⟩), .int .i64 n] w fun e w' => e = .returned (.tuple #[(.int .u64 (numAt bs at' n : Nat)), .bool true]) ∧ RdrAt w' r A len cap (at' + n) ∧ w.grownBy w' (some r) := by
  have HR := Lib.hid hR
  have HB := Lib.hid hB
  have Hb := Lib.hid hb
  clear hR hB hb
  go_enter Try.func37, Try.ntmps37
  go_wp2_with fail
  refine (Left_calls r A len cap at' _ HR.out hlen hat).mono ?_
  rintro e w1 ⟨rfl, hb1⟩
  have HR1 := Lib.hid (HR.out.keep hb1)
  have HB1 := Lib.hid (HB.out.below hb1)
  have Hb1 := Lib.hid hb1
  clear hb1
  go_wp2
  go_loopw [6, 21] (fun x i wr => ∃ k : Nat, k ≤ n ∧ i = .int .i64 k ∧ x = .int .u64 (numAt bs at' k : Nat) ∧ RdrAt wr r A len cap (at' + k) ∧ Hid (w.grownBy wr (some r))) (fun _ i _ => n - (intOf i).toNat)
  case atStart => exact ⟨0, by omega, rfl, rfl, HR1.out, grown_below (grown_refl w _) Hb1.out⟩
  case round =>
    obtain ⟨k, hk, rfl, rfl, hR, Hg⟩ := hrel
    have HRk := Lib.hid hR
    have c0 := hR.c0
    have c1 := hR.c1
    have f1 := hR.frozen 1
    clear hR
    by_cases hlt : k < n
    · obtain ⟨b, o, rfl, hc⟩ := (HB.out.grown Hg.out hne).2 (by omega)
      obtain ⟨p, hp⟩ : ∃ p : Nat, p = at' + k := ⟨_, rfl⟩
      have Hp := Lib.hid hp
      rw [← hp] at c1
      have hj : p / 8 < len := by omega
      have z := hc _ hj
      clear hc hp
      have hbr := Hb.out _ hj
      have s1 : ((p : Int) / 8).toNat = p / 8 := by omega
      have s2 : (0 : Int) ≤ (p : Int) / 8 := by omega
      have s3 : (p : Int) / 8 < len := by omega
      obtain ⟨y, hy⟩ : ∃ y : Nat, rd bs (p / 8) = y := ⟨(rd bs (p / 8)).toNat, by omega⟩
      rw [hy] at z hbr
      have Ev := Lib.hid (bit_step bs at' k p y Hp.out hy (by omega) (by omega))
      obtain ⟨q, hq⟩ : ∃ q : Nat, q = p % 8 := ⟨_, rfl⟩
      have a1 := and7_i64 p (by omega)
      rw [← hq] at a1
      have hbit : bitAt bs p = y / 2 ^ q % 2 := by unfold bitAt; rw [hy, ← hq]; rfl
      have Hbit := Lib.hid hbit
      have hyd : y / 2 ^ q ≤ y := Nat.div_le_self _ _
      obtain ⟨u, hu⟩ : ∃ u : Nat, u = y / 2 ^ q := ⟨_, rfl⟩
      have a2 := and1_u8 u (by omega)
      have hq8 : q < 8 := by omega
      clear hbit
      go_wp2
      go_region
      rw [Ev.out]
      go_wp2
      go_roundw
      case rel =>
        refine ⟨k + 1, by omega, by go_num, rfl, ?_, grown_set (grown_below Hg.out (Below.refl _ _).drew) 1 _⟩
        have h9 : RdrAt (wr.setCell ⟨r, 1, none⟩ (.int .i64 ((p : Int) + 1))) r (some ⟨b, o, none⟩) len cap (p + 1) := HRk.out.set (p + 1)
        rw [show at' + (k + 1) = p + 1 from by rw [Hp.out]; omega]
        exact h9
      case measure => simp [intOf]; omega
    · have hkn : k = n := by omega
      rw [hkn] at HRk
      go_wp2
      refine bodyPost_ret (v := .tuple #[.int .u64 (numAt bs at' k : Nat), .bool true]) (by simp [results, Try.results37, go_sem]) rfl ⟨by rw [hkn], HRk.out, Hg.out⟩
set_option maxHeartbeats 1000000 in
theorem BitsShort_calls (r : Nat) (A : Option Addr) (len cap at' n : Nat) (w : World) (hR : RdrAt w r A len cap at') (hlen : len ≤ 140737488355328) (hat : at' ≤ 8 * len) (hn : n ≤ 60) (hno : 8 * len < at' + n) :
    Calls Try.prog 37 #[.pointer (some ⟨r, 0, none⟩), .int .i64 n] w fun e w' => e = .returned (.tuple #[.int .u64 0, .bool false]) ∧ Below w.heap.size w w' := by
  have HR := Lib.hid hR
  clear hR
  go_enter Try.func37, Try.ntmps37
  go_wp2_with fail
  refine (Left_calls r A len cap at' _ HR.out hlen hat).mono ?_
  rintro e w1 ⟨rfl, hb1⟩
  have Hb1 := Lib.hid hb1
  clear hb1
  go_wp2
  refine bodyPost_ret (v := .tuple #[.int .u64 0, .bool false]) (by simp [results, Try.results37, go_sem]) rfl ⟨rfl, Hb1.out⟩
end Go.Proofs.Ytempgkglhgelkaa
