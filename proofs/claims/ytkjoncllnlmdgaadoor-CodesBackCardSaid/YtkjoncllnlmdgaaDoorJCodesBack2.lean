/-
  Texts joined into one file: Bits, Same8, A, BitsN, RdA, HuffW, Ref01, PackP, HuffP.
-/
import Derived.Test.YtkjoncllnlmdgaaDoorJCodesBack1
import Derived.IntWalk
import Derived.BigQuiet
import Derived.Deep.RegionWith
import Derived.Deep.RegionHeld3
import Derived.Laws.AppendOwnNone
import Derived.Laws.Tables
/-
  The walks of package bits: Reader.
-/
namespace Go.Proofs.YtkjoncllnlmdgaaDoor
open Go.RowKit

/-- A reader of these bytes, that stands at this bit. -/
def RdrAt (w : World) (r : Nat) (A : Option Addr) (len cap : Nat) (at' : Nat) : Prop := w.heap[r]? = some (.cells #[.slice A len cap, .int .i64 at'] 62 (0, 0))
theorem RdrAt.lt {w : World} {r : Nat} {A : Option Addr} {len cap at' : Nat} (h : RdrAt w r A len cap at') : r < w.heap.size := (Array.getElem?_eq_some_iff.1 h).1
theorem RdrAt.c0 {w : World} {r : Nat} {A : Option Addr} {len cap at' : Nat} (h : RdrAt w r A len cap at') : w.cell? ⟨r, 0, none⟩ = some (.slice A len cap) := by
  rw [cell_of_row w r 0 _ _ (0, 0) h]; rfl
theorem RdrAt.c1 {w : World} {r : Nat} {A : Option Addr} {len cap at' : Nat} (h : RdrAt w r A len cap at') : w.cell? ⟨r, 1, none⟩ = some (.int .i64 at') := by
  rw [cell_of_row w r 1 _ _ (0, 0) h]; rfl
theorem RdrAt.frozen {w : World} {r : Nat} {A : Option Addr} {len cap at' : Nat} (h : RdrAt w r A len cap at') (j : Nat) : w.frozen? ⟨r, j, none⟩ = false := frozen_of_row w r j _ _ h
theorem RdrAt.set {w : World} {r : Nat} {A : Option Addr} {len cap at' : Nat} (h : RdrAt w r A len cap at') (x : Nat) : RdrAt (w.setCell ⟨r, 1, none⟩ (.int .i64 x)) r A len cap x := by
  unfold RdrAt
  rw [heap_setCell_same w r 1 _ _ _ h]
  rfl
theorem RdrAt.keep {w w' : World} {r : Nat} {A : Option Addr} {len cap at' : Nat} (h : RdrAt w r A len cap at') (hb : Below w.heap.size w w') : RdrAt w' r A len cap at' := (hb.block r h.lt).trans h

set_option maxHeartbeats 1000000 in
theorem Left_calls (r : Nat) (A : Option Addr) (len cap at' : Nat) (w : World) (hR : RdrAt w r A len cap at') (hlen : len ≤ 140737488355328) (hat : at' ≤ 8 * len) :
    Calls Tryd.prog 20 #[.pointer (some ⟨r, 0, none⟩)] w fun e w' => e = .returned (.int .i64 (8 * len - at')) ∧ Below w.heap.size w w' := by
  have c0 := hR.c0
  have c1 := hR.c1
  clear hR
  have s1 : IntKind.i64.wrap (8 * (len : Int)) = 8 * len := IntWalk.i64_in _ (by omega)
  have s2 : IntKind.i64.wrap (8 * (len : Int) - at') = 8 * len - at' := IntWalk.i64_in _ (by omega)
  go_enter Tryd.func20, Tryd.ntmps20
  go_wp2
  go_quiet (fail)
  go_wp2
  go_ret
  exact ⟨rfl, (Below.refl _ _).trans ⟨rfl, rfl, rfl, Nat.le_refl _, fun _ _ => rfl⟩⟩

theorem Rd.grown {w w1 : World} {k : IntKind} {A : Option Addr} {n : Nat} {xs : List Int} (h : Rd w k A n xs) {r : Nat} (hg : w.grownBy w1 (some r)) (hne : ∀ b o, A = some ⟨b, o, none⟩ → b ≠ r) : Rd w1 k A n xs :=
  ⟨h.1, fun hn => by obtain ⟨b, o, e, hc⟩ := h.2 hn; exact ⟨b, o, e, fun j hj => hg.cell (hc j hj) (by simpa using hne b o e)⟩⟩
theorem grown_below {w w1 w2 : World} {r : Nat} (h : w.grownBy w1 (some r)) (hb : Below w1.heap.size w1 w2) : w.grownBy w2 (some r) :=
  ⟨hb.os.trans h.os, hb.tape.trans h.tape, hb.output.trans h.output, Nat.le_trans h.size hb.size, fun k hk hne => (hb.block k (Nat.lt_of_lt_of_le hk h.size)).trans (h.block k hk hne)⟩
theorem grown_set {w w1 : World} {r : Nat} (h : w.grownBy w1 (some r)) (j : Nat) (v : Value) : w.grownBy (w1.setCell ⟨r, j, none⟩ v) (some r) :=
  ⟨h.os, h.tape, h.output, by simpa using h.size, fun k hk hne => (heap_setCell_other w1 ⟨r, j, none⟩ k v (by intro e; exact hne (by rw [e]))).trans (h.block k hk hne)⟩
theorem grown_refl (w : World) (row : Option Nat) : w.grownBy w row := ⟨rfl, rfl, rfl, Nat.le_refl _, fun _ _ _ => rfl⟩
def bitAt (bs : List Int) (i : Nat) : Nat := (rd bs (i / 8)).toNat / 2 ^ (i % 8) % 2
def numAt (bs : List Int) (at' : Nat) : Nat → Nat
  | 0 => 0
  | i + 1 => numAt bs at' i + bitAt bs (at' + i) * 2 ^ i
theorem bitAt_le (bs : List Int) (i : Nat) : bitAt bs i ≤ 1 := by unfold bitAt; omega
theorem numAt_lt (bs : List Int) (at' i : Nat) : numAt bs at' i < 2 ^ i := by
  induction i with
  | zero => simp [numAt]
  | succ i ih =>
    have h := Nat.mul_le_mul_right (2 ^ i) (bitAt_le bs (at' + i))
    simp only [numAt, Nat.pow_succ]
    omega
theorem bit_step (bs : List Int) (at' k p y : Nat) (hp : p = at' + k) (hy : rd bs (p / 8) = y) (hy2 : y < 256) (hk : k < 60) :
    bits BinOp.or IntKind.u64 ((numAt bs at' k : Nat) : Int) (IntKind.u64.wrap (IntKind.u64.wrap (bits BinOp.and IntKind.u8 ((y : Int) / 2 ^ (p % 8)) 1) * 2 ^ k)) = ((numAt bs at' (k + 1) : Nat) : Int) := by
  have e1 : (y : Int) / 2 ^ (p % 8) = ((y / 2 ^ (p % 8) : Nat) : Int) := by
    rw [Int.natCast_ediv, Int.natCast_pow]
    rfl
  have hd : y / 2 ^ (p % 8) ≤ y := Nat.div_le_self _ _
  have e2 : bitAt bs p = y / 2 ^ (p % 8) % 2 := by unfold bitAt; rw [hy]; rfl
  have hb := bitAt_le bs p
  have hpow : (2 : Nat) ^ k ≤ 2 ^ 60 := Nat.pow_le_pow_right (by omega) (by omega)
  have hp60 : (2 : Nat) ^ 60 = 1152921504606846976 := by decide
  have hm : bitAt bs p * 2 ^ k ≤ 1 * 2 ^ k := Nat.mul_le_mul_right _ hb
  rw [e1, and1_u8 _ (by omega), ← e2, IntWalk.u64_in ((bitAt bs p : Nat) : Int) (by omega)]
  have e3 : ((bitAt bs p : Nat) : Int) * 2 ^ k = ((bitAt bs p * 2 ^ k : Nat) : Int) := by
    rw [Int.natCast_mul, Int.natCast_pow]
    rfl
  rw [e3, IntWalk.u64_in _ (by omega), or_u64_top _ _ _ (numAt_lt bs at' k) hb (by omega)]
  simp only [numAt, hp]
set_option maxHeartbeats 1000000 in
theorem Bits_calls (r : Nat) (A : Option Addr) (len cap at' n : Nat) (bs : List Int) (w : World) (hR : RdrAt w r A len cap at') (hB : Rd w .u8 A len bs) (hb : ∀ j, j < len → 0 ≤ rd bs j ∧ rd bs j ≤ 255) (hne : ∀ b o, A = some ⟨b, o, none⟩ → b ≠ r) (hlen : len ≤ 140737488355328) (hat : at' ≤ 8 * len) (hn : n ≤ 60) (hok : at' + n ≤ 8 * len) :
    Calls Tryd.prog 39 #[.pointer (some ⟨r, 0, none⟩), .int .i64 n] w fun e w' => e = .returned (.tuple #[(.int .u64 (numAt bs at' n : Nat)), .bool true]) ∧ RdrAt w' r A len cap (at' + n) ∧ w.grownBy w' (some r) := by
  have HR := Lib.hid hR
  have HB := Lib.hid hB
  have Hb := Lib.hid hb
  clear hR hB hb
  go_enter Tryd.func39, Tryd.ntmps39
  go_wp2_with fail
  refine (Left_calls r A len cap at' _ HR.out hlen hat).mono ?_
  rintro e w1 ⟨rfl, hb1⟩
  have HR1 := Lib.hid (HR.out.keep hb1)
  have HB1 := Lib.hid (HB.out.below hb1)
  have Hb1 := Lib.hid hb1
  clear hb1
  go_wp2
  go_loopw [6, 21] (fun x i wr => ∃ k : Nat, k ≤ n ∧ i = .int .i64 k ∧ x = .int .u64 (numAt bs at' k : Nat) ∧ RdrAt wr r A len cap (at' + k) ∧ Hid (w.grownBy wr (some r))) (fun _ i _ => n - (intOf i).toNat)
  case atStart => exact ⟨0, by omega, rfl, rfl, HR1.out, grown_below (grown_refl w _) Hb1.out⟩
  case round =>
    obtain ⟨k, hk, rfl, rfl, hR, Hg⟩ := hrel
    have HRk := Lib.hid hR
    have c0 := hR.c0
    have c1 := hR.c1
    have f1 := hR.frozen 1
    clear hR
    by_cases hlt : k < n
    · obtain ⟨b, o, rfl, hc⟩ := (HB.out.grown Hg.out hne).2 (by omega)
      obtain ⟨p, hp⟩ : ∃ p : Nat, p = at' + k := ⟨_, rfl⟩
      have Hp := Lib.hid hp
      rw [← hp] at c1
      have hj : p / 8 < len := by omega
      have z := hc _ hj
      clear hc hp
      have hbr := Hb.out _ hj
      have s1 : ((p : Int) / 8).toNat = p / 8 := by omega
      have s2 : (0 : Int) ≤ (p : Int) / 8 := by omega
      have s3 : (p : Int) / 8 < len := by omega
      obtain ⟨y, hy⟩ : ∃ y : Nat, rd bs (p / 8) = y := ⟨(rd bs (p / 8)).toNat, by omega⟩
      rw [hy] at z hbr
      have Ev := Lib.hid (bit_step bs at' k p y Hp.out hy (by omega) (by omega))
      obtain ⟨q, hq⟩ : ∃ q : Nat, q = p % 8 := ⟨_, rfl⟩
      have a1 := and7_i64 p (by omega)
      rw [← hq] at a1
      have hbit : bitAt bs p = y / 2 ^ q % 2 := by unfold bitAt; rw [hy, ← hq]; rfl
      have Hbit := Lib.hid hbit
      have hyd : y / 2 ^ q ≤ y := Nat.div_le_self _ _
      obtain ⟨u, hu⟩ : ∃ u : Nat, u = y / 2 ^ q := ⟨_, rfl⟩
      have a2 := and1_u8 u (by omega)
      have hq8 : q < 8 := by omega
      clear hbit
      go_wp2
      go_region
      rw [Ev.out]
      go_wp2
      go_roundw
      case rel =>
        refine ⟨k + 1, by omega, by go_num, rfl, ?_, grown_set (grown_below Hg.out (Below.refl _ _).drew) 1 _⟩
        have h9 : RdrAt (wr.setCell ⟨r, 1, none⟩ (.int .i64 ((p : Int) + 1))) r (some ⟨b, o, none⟩) len cap (p + 1) := HRk.out.set (p + 1)
        rw [show at' + (k + 1) = p + 1 from by rw [Hp.out]; omega]
        exact h9
      case measure => simp [intOf]; omega
    · have hkn : k = n := by omega
      rw [hkn] at HRk
      go_wp2
      refine bodyPost_ret (v := .tuple #[.int .u64 (numAt bs at' k : Nat), .bool true]) (by simp [results, Tryd.results39, go_sem]) rfl ⟨by rw [hkn], HRk.out, Hg.out⟩
set_option maxHeartbeats 1000000 in
theorem BitsShort_calls (r : Nat) (A : Option Addr) (len cap at' n : Nat) (w : World) (hR : RdrAt w r A len cap at') (hlen : len ≤ 140737488355328) (hat : at' ≤ 8 * len) (hn : n ≤ 60) (hno : 8 * len < at' + n) :
    Calls Tryd.prog 39 #[.pointer (some ⟨r, 0, none⟩), .int .i64 n] w fun e w' => e = .returned (.tuple #[.int .u64 0, .bool false]) ∧ Below w.heap.size w w' := by
  have HR := Lib.hid hR
  clear hR
  go_enter Tryd.func39, Tryd.ntmps39
  go_wp2_with fail
  refine (Left_calls r A len cap at' _ HR.out hlen hat).mono ?_
  rintro e w1 ⟨rfl, hb1⟩
  have Hb1 := Lib.hid hb1
  clear hb1
  go_wp2
  refine bodyPost_ret (v := .tuple #[.int .u64 0, .bool false]) (by simp [results, Tryd.results39, go_sem]) rfl ⟨rfl, Hb1.out⟩
end Go.Proofs.YtkjoncllnlmdgaaDoor
/-
  'same' of chapter 08 where one list has 0s behind the other; where a reader stands.
-/
namespace Go.Proofs.YtkjoncllnlmdgaaDoor
open Go.RowKit

theorem At_calls (r : Nat) (A : Option Addr) (len cap at' : Nat) (w : World) (hR : RdrAt w r A len cap at') :
    Calls Tryd.prog 25 #[.pointer (some ⟨r, 0, none⟩)] w fun e w' => e = .returned (.int .i64 at') ∧ Below w.heap.size w w' := by
  have c0 := hR.c0
  have c1 := hR.c1
  clear hR
  go_enter Tryd.func25, Tryd.ntmps25
  go_wp2
  go_ret
  exact ⟨rfl, Below.refl _ _⟩
set_option maxHeartbeats 1000000 in
theorem same8z_calls (A B : Option Addr) (n m c d : Nat) (xs ys : List Int) (w : World) (hA : Rd w .i64 A n xs) (hB : Rd w .i64 B m ys) (hn : n ≤ 1000000) (hm : m ≤ n) (he : ∀ i, i < m → rd xs i = rd ys i) (hz : ∀ i, m ≤ i → i < n → rd xs i = 0) :
    Calls Tryd.prog 19 #[.slice A n c, .slice B m d] w fun e w' => e = .returned (.bool true) ∧ Below w.heap.size w w' := by
  have HA := Lib.hid hA
  have HB := Lib.hid hB
  have He := Lib.hid he
  have Hz := Lib.hid hz
  clear hA hB he hz
  go_enter Tryd.func19, Tryd.ntmps19
  go_wp2
  go_loop [5] (fun i => ∃ k : Nat, k ≤ n ∧ i = .int .i64 k) (fun i => n - (intOf i).toNat)
  case atStart => exact ⟨0, by omega, rfl⟩
  case round =>
    obtain ⟨k, hk, rfl⟩ := hrel
    by_cases hlt : k < n
    · obtain ⟨b, o, rfl, hc⟩ := HA.out.2 (by omega)
      have z1 := hc k hlt
      clear hc
      by_cases h2 : k < m
      · obtain ⟨b', o', rfl, hc'⟩ := HB.out.2 (by omega)
        have z2 := hc' k h2
        rw [← He.out k h2] at z2
        obtain ⟨y, hy⟩ : ∃ y, rd xs k = y := ⟨_, rfl⟩
        rw [hy] at z1 z2
        clear hc' hy
        go_wp2
        go_round
        case rel => exact ⟨k + 1, by omega, by go_num⟩
        case measure => simp [intOf]; omega
      · rw [Hz.out k (by omega) hlt] at z1
        go_wp2
        go_round
        case rel => exact ⟨k + 1, by omega, by go_num⟩
        case measure => simp [intOf]; omega
    · obtain rfl : k = n := by omega
      have h2 : ¬ k < m := by omega
      go_wp2
      go_ret
      exact ⟨rfl, Below.refl _ _⟩
end Go.Proofs.YtkjoncllnlmdgaaDoor
/-
  Append of a slice of numbers that is read.
-/
namespace Go.Proofs.YtkjoncllnlmdgaaDoor
open Go.RowKit

theorem addr_add (b o j : Nat) : (⟨b, o, none⟩ : Addr).add j = ⟨b, o + j, none⟩ := by unfold Addr.add; split <;> simp_all
theorem wpList_appRd {P : Program} {w : World} {ops : Array Oper} {rest : List Oper} {o : Oper} {a : Act} {Q : Exit → Act → World → Prop} (hgd : o.guard = none) (s x : Operand) {t : TypeId}
    (ho : o.op = .call { callee := .builtin .append, args := #[s, x], argTypes := #[t, t] })
    {base : Nat} {e : TypeId} {k : IntKind} {bytes : Nat} (El : ElT P t e (.int k 0) 1 bytes) {v : Value} {n : Nat} {ys : List Int} (hown : w.ownsRow base e 1 v n (ints k ys)) (hs : a.eval s = v)
    {A : Option Addr} {m c : Nat} {zs : List Int} (hx : a.eval x = .slice A m c) (hR : Rd w k A m zs) (hA : A = none → m = 0 ∧ c = 0) (hbytes : (n + m) * bytes ≤ 140737488355328) (hbase : base ≤ w.heap.size)
    (h : ∀ v' w', w'.ownsRow base e 1 v' (n + m) (ints k (ys ++ zs)) → w.grownBy w' v.ownBlock → wpList P ops Q rest (a.put o.dst v') w') : wpList P ops Q (o :: rest) a w := by
  obtain ⟨i0, hi, hz0, hz1, hz2⟩ := info_parts El.info
  have hn : n + m ≤ maxLen := by
    have := Nat.mul_le_mul_left (n + m) El.bpos
    unfold maxLen
    omega
  have hl := hR.1
  cases A with
  | none =>
    obtain ⟨rfl, rfl⟩ := hA rfl
    have hz : zs = [] := List.length_eq_zero_iff.1 hl
    subst hz
    refine wpList_append_own_none hgd s x t ho base e i0 1 El.und hi v n _ hs hown hx (h v w ?_ ?_)
    · simpa using hown
    · exact ⟨rfl, rfl, rfl, Nat.le_refl _, fun _ _ _ => rfl⟩
  | some ad =>
    refine wpList_append_own _ hgd s x t ho base e i0 (.int k 0) 1 bytes El.und hi hz0 hz1 hz2 El.zs El.pos v n _ hs hown ad m c (ints k zs) hx (by rw [ints_length]; omega) ?_ (fun u hu => ?_) hn hbytes hbase ?_
    · intro j u hu
      have hj : j < zs.length := by
        have := (List.getElem?_eq_some_iff.1 hu).1
        rwa [ints_length] at this
      obtain ⟨b, o', e', hc⟩ := hR.2 (by omega)
      cases e'
      rw [ints_get hj] at hu
      cases hu
      rw [addr_add]
      exact hc j (by omega)
    · unfold ints at hu
      obtain ⟨y, _, rfl⟩ := List.mem_map.1 hu
      rfl
    · intro v' w' h2 h3 _
      rw [← ints_append] at h2
      exact h v' w' h2 h3
end Go.Proofs.YtkjoncllnlmdgaaDoor
/-
  The walk of bits.New.
-/
namespace Go.Proofs.YtkjoncllnlmdgaaDoor
open Go.RowKit

theorem elU8 : ElT Tryd.prog 22 5 (.int .u8 0) 1 1 := ⟨Tryd.underlying22, by kernel_rfl, rfl, by decide, by decide⟩
theorem own_empty (w : World) (e : TypeId) : (w.alloc (.cells #[] e)).ownsRow w.heap.size e 1 (.slice (some ⟨w.heap.size, 0, none⟩) 0 0) 0 [] :=
  World.ownsRow_lit w #[] 0 (Nat.le_refl _) (by decide) rfl
set_option maxHeartbeats 1000000 in
theorem BNew_calls (A : Option Addr) (len cap : Nat) (bs : List Int) (w : World) (hB : Rd w .u8 A len bs) (hA : A = none → len = 0 ∧ cap = 0) (hlen : len ≤ 1000000) :
    Calls Tryd.prog 15 #[.slice A len cap] w fun e w' => ∃ r B c, e = .returned (.pointer (some ⟨r, 0, none⟩)) ∧ w.heap.size ≤ r ∧ RdrAt w' r B len c 0 ∧ w'.ownsRow w.heap.size 5 1 (.slice B len c) len (ints .u8 bs) ∧ Below w.heap.size w w' := by
  have HB := Lib.hid hB
  clear hB
  go_enter Tryd.func15, Tryd.ntmps15
  go_wp2_with (at_builtin; refine wpList_appRd rfl _ _ rfl elU8 (ys := []) (own_empty w _) rfl rfl (HB.out.alloc _) hA (by omega) (by simp) ?_; intro v' w' hown hg; rw [Nat.zero_add] at hown; obtain ⟨B, c, rfl⟩ := own_slice hown; have Hown := Lib.hid hown; have Hg := Lib.hid hg; clear hown hg)
  have hsz : w.heap.size ≤ w'.heap.size := by have := Hg.out.size; simp at this; omega
  have hb1 : Below w.heap.size w w' := ((Below.refl _ _).alloc (Nat.le_refl _) _).grown Hg.out (by simp) (fun k hk => by simp [Value.ownBlock] at hk; omega)
  go_ret
  exact ⟨w'.heap.size, B, c, rfl, hsz, heap_alloc_new w' _, Hown.out.alloc _, below_new hb1 (Nat.le_refl _) _⟩
end Go.Proofs.YtkjoncllnlmdgaaDoor
/-
  Small facts: what is read in two lists joined; rows that lie nowhere (no program).
-/
namespace Go.Proofs.YtkjoncllnlmdgaaDoor
open Go.RowKit

theorem rd_appL {a b : List Int} {i : Nat} (h : i < a.length) : rd (a ++ b) i = rd a i := by
  unfold rd
  rw [List.getD_eq_getElem?_getD, List.getD_eq_getElem?_getD, List.getElem?_append_left h]
theorem rd_appR {a b : List Int} (i : Nat) : rd (a ++ b) (a.length + i) = rd b i := by
  unfold rd
  rw [List.getD_eq_getElem?_getD, List.getD_eq_getElem?_getD, List.getElem?_append_right (Nat.le_add_right _ _), Nat.add_sub_cancel_left]
theorem own_none {w : World} {base n c : Nat} {e : TypeId} {size : Nat} {A : Option Addr} {xs : List Value} (h : w.ownsRow base e size (.slice A n c) n xs) : A = none → n = 0 ∧ c = 0 := by
  intro hA
  subst hA
  rcases h.2 with ⟨h1, h2⟩ | ⟨g, cap, cur, h1, _⟩
  · simp at h1
    exact ⟨h2, h1.2⟩
  · cases h1
/-- What was there first lies apart from a younger block. -/
theorem Rd.apart {w0 w w1 : World} {k : IntKind} {A : Option Addr} {n : Nat} {xs : List Int} (h0 : Rd w0 k A n xs) (h : Rd w k A n xs) {r : Nat} (hg : w.grownBy w1 (some r)) (hr : w0.heap.size ≤ r) : Rd w1 k A n xs :=
  ⟨h.1, fun hn => by
    obtain ⟨b, o, e, hc⟩ := h.2 hn
    obtain ⟨b', o', e', hc'⟩ := h0.2 hn
    rw [e] at e'
    cases e'
    have hlt := World.block_lt_of_cell? _ _ (hc' 0 hn)
    exact ⟨b, o, e, fun j hj => hg.cell (hc j hj) (by simp at hlt ⊢; omega)⟩⟩
end Go.Proofs.YtkjoncllnlmdgaaDoor
/-
  The walks of package huff: counts, Right.
-/
namespace Go.Proofs.YtkjoncllnlmdgaaDoor
open Go.RowKit

/-- How many of the first k lengths are j. -/
def cntTo (xs : List Int) (k : Nat) : List Int := (List.range 16).map fun (j : Nat) => (((xs.take k).filter fun x => x == (j : Int)).length : Int)
def lensOk (xs : List Int) : Bool := xs.all fun x => decide (0 ≤ x ∧ x ≤ 15)
def cntOf (xs : List Int) : List Int := (cntTo xs xs.length).set 0 0

theorem cntTo_length (xs : List Int) (k : Nat) : (cntTo xs k).length = 16 := by simp [cntTo]
theorem rd_cntTo (xs : List Int) (k j : Nat) (h : j < 16) : rd (cntTo xs k) j = (((xs.take k).filter fun x => x == (j : Int)).length : Int) := by
  rw [rd_getElem (by rw [cntTo_length]; exact h)]
  simp [cntTo]
theorem rd_cntTo_le (xs : List Int) (k j : Nat) (h : j < 16) : 0 ≤ rd (cntTo xs k) j ∧ rd (cntTo xs k) j ≤ k := by
  rw [rd_cntTo xs k j h]
  have h1 := List.length_filter_le (fun x => x == (j : Int)) (xs.take k)
  have h2 := List.length_take_le k xs
  omega
theorem ext_rd {a b : List Int} (hl : a.length = b.length) (h : ∀ j, j < a.length → rd a j = rd b j) : a = b := by
  apply List.ext_getElem hl
  intro i h1 h2
  rw [← rd_getElem h1, ← rd_getElem h2]
  exact h i h1
theorem cntTo_succ (xs : List Int) (k m : Nat) (hk : k < xs.length) (hm : rd xs k = (m : Int)) (h16 : m < 16) : cntTo xs (k + 1) = (cntTo xs k).set m (rd (cntTo xs k) m + 1) := by
  apply ext_rd (by simp [cntTo_length])
  intro j hj
  rw [cntTo_length] at hj
  rw [rd_set (by rw [cntTo_length]; exact h16), rd_cntTo _ _ _ hj, rd_cntTo _ _ _ h16, rd_cntTo _ _ _ hj, List.take_succ_eq_append_getElem hk, ← rd_getElem hk, hm, List.filter_append]
  by_cases e : m = j
  · subst e
    rw [if_pos rfl]
    simp
  · rw [if_neg e]
    have : ((m : Int) == (j : Int)) = false := by simp; omega
    simp [this]

set_option maxHeartbeats 1000000 in
set_option maxRecDepth 200000 in
theorem counts_calls (A : Option Addr) (n cap : Nat) (xs : List Int) (w : World) (hR : Rd w .i64 A n xs) (hn : n ≤ 140737488351232) :
    Calls Tryd.prog 73 #[.slice A n cap] w fun e w' => ∃ l : List Int, l.length = 16 ∧ e = .returned (.tuple #[.agg (ints .i64 l).toArray, .bool (lensOk xs)]) ∧ (lensOk xs = true → l = cntOf xs) ∧ Below w.heap.size w w' := by
  have HR := Lib.hid hR
  have hlen := Lib.hid hR.1
  clear hR
  go_enter Tryd.func73, Tryd.ntmps73
  go_wp2
  go_loopw [6, 9] (fun x i wr => ∃ k : Nat, k ≤ n ∧ i = .int .i64 k ∧ Blk wr w.heap.size 107 .i64 (List.replicate 16 0) ∧ Blk wr (w.heap.size + 1) 107 .i64 (cntTo xs k) ∧ Hid (lensOk (xs.take k) = true) ∧ Below w.heap.size w wr) (fun _ i _ => n - (intOf i).toNat)
  case atStart =>
    refine ⟨0, by omega, rfl, ?_, ?_, rfl, below_new (below_new (Below.refl _ _) (Nat.le_refl _) _) (Nat.le_refl _) _⟩
    · exact heap_alloc2_old _ _ _
    · exact heap_alloc2_new _ _ _
  case round =>
    obtain ⟨k, hk, rfl, hB0, hB1, Hok, hbel⟩ := hrel
    have HB0 := Lib.hid hB0
    have HB1 := Lib.hid hB1
    have Hbel := Lib.hid hbel
    clear hB0 hB1 hbel
    by_cases hlt : k < n
    · obtain ⟨b, o, rfl, hc⟩ := HR.out.2 (by omega)
      have hck := kept_cell Hbel.out (hc k hlt)
      clear hc
      by_cases hx : 0 ≤ rd xs k ∧ rd xs k ≤ 15
      · obtain ⟨hx0, hx1⟩ := hx
        obtain ⟨m, hm⟩ : ∃ m : Nat, rd xs k = m := ⟨(rd xs k).toNat, by omega⟩
        rw [hm] at hck hx0 hx1
        have Hm := Lib.hid hm
        clear hm
        have hcm := HB1.out.cell (j := m) (by rw [cntTo_length]; omega)
        have hfm := HB1.out.frozen m
        have hrg := rd_cntTo_le xs k m (by omega)
        go_wp2
        go_roundw
        case rel =>
          refine ⟨k + 1, by omega, by go_num, HB0.out.other _ _ (by simp), ?_, ?_, Hbel.out.setCell (by simp) _⟩
          · rw [cntTo_succ xs k m (by rw [hlen.out]; omega) Hm.out (by omega)]
            exact HB1.out.set _ _
          · show lensOk _ = true
            rw [List.take_succ_eq_append_getElem (by rw [hlen.out]; omega)]
            have h1 : lensOk (xs.take k) = true := Hok.out
            unfold lensOk at *
            rw [List.all_append, h1, ← rd_getElem (by rw [hlen.out]; omega), Hm.out]
            simp
            omega
        case measure => simp [intOf]; omega
      · have hno : lensOk xs = false := by
          unfold lensOk
          rw [List.all_eq_false]
          exact ⟨xs[k]'(by rw [hlen.out]; omega), List.getElem_mem _, by rw [← rd_getElem (by rw [hlen.out]; omega)]; simpa using hx⟩
        have hways : rd xs k < 0 ∨ (0 ≤ rd xs k ∧ 15 < rd xs k) := by omega
        clear hx
        have hs : (ints .i64 (cntTo xs k)).toArray.size = 16 := by simp [ints_length, cntTo_length]
        have Hno := Lib.hid hno
        have Hs := Lib.hid hs
        clear hno hs
        rcases hways with h1 | ⟨h1, h2⟩
        all_goals
          go_wp2_with (first
            | (refine wpList_load_row rfl 107 _ rfl (w.heap.size + 1) rfl 107 _ (0, 0) _ HB1.out Tryd.underlying107 rfl (by rw [Hs.out]; kernel_rfl) ?_)
            | (refine wpList_store_row rfl 107 _ _ rfl w.heap.size _ rfl rfl 107 _ HB0.out (by rw [Hs.out]; kernel_rfl) (by rw [Hs.out]; simp [ints]) (ints_one _ _) ?_))
          have hrow := setRow_heap wr w.heap.size _ (ints .i64 (cntTo xs k)).toArray 107 _ HB0.out
          have hl := run_loadVar_row (P := Tryd.prog) _ w.heap.size 107 107 _ _ _ hrow Tryd.underlying107 rfl (by rw [Hs.out]; kernel_rfl)
          refine bodyPost_ret (v := .tuple #[.agg (ints .i64 (cntTo xs k)).toArray, .bool false]) ?_ rfl ⟨cntTo xs k, cntTo_length _ _, by rw [Hno.out], (fun h => absurd h (by rw [Hno.out]; decide)), ?_⟩
          · simp [results, Tryd.results73, asAddr, hl]
          · exact Hbel.out.trans ⟨rfl, rfl, rfl, by simp, fun i hi => setRow_other wr w.heap.size i _ (by omega)⟩
    · obtain rfl : k = n := by omega
      have hs : (ints .i64 ((cntTo xs k).set 0 0)).toArray.size = 16 := by simp [ints_length, cntTo_length]
      have Hs := Lib.hid hs
      have hok : lensOk xs = true := by
        have h1 : lensOk (xs.take k) = true := Hok.out
        rwa [List.take_of_length_le (by rw [hlen.out]; exact Nat.le_refl _)] at h1
      have Hk := Lib.hid hok
      clear hs hok
      have hc0 := HB1.out.cell (j := 0) (by rw [cntTo_length]; omega)
      have hf0 := HB1.out.frozen 0
      have HB1' := Lib.hid (HB1.out.set 0 0)
      have HB0' := Lib.hid (HB0.out.other ⟨w.heap.size + 1, 0, none⟩ (.int .i64 0) (by simp))
      go_wp2_with (first
        | (refine wpList_load_row rfl 107 _ rfl (w.heap.size + 1) rfl 107 _ (0, 0) _ HB1'.out Tryd.underlying107 rfl (by rw [Hs.out]; kernel_rfl) ?_)
        | (refine wpList_store_row rfl 107 _ _ rfl w.heap.size _ rfl rfl 107 _ HB0'.out (by rw [Hs.out]; kernel_rfl) (by rw [Hs.out]; simp [ints]) (ints_one _ _) ?_))
      have hrow := setRow_heap _ w.heap.size _ (ints .i64 ((cntTo xs k).set 0 0)).toArray 107 _ HB0'.out
      have hl := run_loadVar_row (P := Tryd.prog) _ w.heap.size 107 107 _ _ _ hrow Tryd.underlying107 rfl (by rw [Hs.out]; kernel_rfl)
      refine bodyPost_ret (v := .tuple #[.agg (ints .i64 ((cntTo xs k).set 0 0)).toArray, .bool true]) ?_ rfl ⟨(cntTo xs k).set 0 0, by rw [List.length_set, cntTo_length], by rw [Hk.out], fun _ => by unfold cntOf; rw [hlen.out], ?_⟩
      · simp [results, Tryd.results73, asAddr, hl]
      · exact (Hbel.out.setCell (by simp) _).trans ⟨rfl, rfl, rfl, by simp, fun i hi => setRow_other _ w.heap.size i _ (by omega)⟩
/-- What is left of 1 behind i lengths, doubled each time; how many there are. -/
def leftAt (c : List Int) : Nat → Int
  | 0 => 1
  | i + 1 => 2 * leftAt c i - rd c (i + 1)
def sumAt (c : List Int) : Nat → Int
  | 0 => 0
  | i + 1 => sumAt c i + rd c (i + 1)
def leftOk (c : List Int) (i : Nat) : Bool := (List.range i).all fun j => decide (0 ≤ leftAt c (j + 1))
theorem leftOk_succ (c : List Int) (i : Nat) : leftOk c (i + 1) = (leftOk c i && decide (0 ≤ leftAt c (i + 1))) := by
  simp [leftOk, List.range_succ]
def rightOf (c : List Int) : Bool := leftOk c 15 && (leftAt c 15 == 0 || (sumAt c 15 == 1 && rd c 1 == 1))
def rightB (xs : List Int) : Bool := lensOk xs && rightOf (cntOf xs)

theorem leftOk_no (c : List Int) (i k : Nat) (hk : k < i) (h : leftAt c (k + 1) < 0) : leftOk c i = false := by
  unfold leftOk
  rw [List.all_eq_false]
  exact ⟨k, List.mem_range.2 hk, by simp; omega⟩
theorem rd_cntOf (xs : List Int) (j : Nat) (h : j < 16) : 0 ≤ rd (cntOf xs) j ∧ rd (cntOf xs) j ≤ xs.length := by
  unfold cntOf
  rw [rd_set (by rw [cntTo_length]; omega)]
  split
  · omega
  · exact rd_cntTo_le xs xs.length j h
theorem leftAt_le (c : List Int) (hc : ∀ j, j < 16 → 0 ≤ rd c j) (i : Nat) (hi : i < 16) : leftAt c i ≤ 2 ^ i := by
  induction i with
  | zero => simp [leftAt]
  | succ i ih =>
    have h1 := ih (by omega)
    have h2 := hc (i + 1) hi
    simp only [leftAt, Int.pow_succ]
    omega
theorem sumAt_le (c : List Int) (n : Int) (hc : ∀ j, j < 16 → 0 ≤ rd c j ∧ rd c j ≤ n) (i : Nat) (hi : i < 16) : 0 ≤ sumAt c i ∧ sumAt c i ≤ i * n := by
  induction i with
  | zero => simp [sumAt]
  | succ i ih =>
    have h1 := ih (by omega)
    have h2 := hc (i + 1) hi
    simp only [sumAt]
    have e : ((i + 1 : Nat) : Int) * n = i * n + n := by rw [Int.natCast_add, Int.add_mul]; simp
    rw [e]
    omega

set_option maxHeartbeats 1000000 in
set_option maxRecDepth 200000 in
theorem Right_calls (A : Option Addr) (n cap : Nat) (xs : List Int) (w : World) (hR : Rd w .i64 A n xs) (hn : n ≤ 140737488351232) :
    Calls Tryd.prog 72 #[.slice A n cap] w fun e w' => e = .returned (.bool (rightB xs)) ∧ Below w.heap.size w w' := by
  have HR := Lib.hid hR
  have hlen := Lib.hid hR.1
  clear hR
  go_enter Tryd.func72, Tryd.ntmps72
  go_wp2_with fail
  refine (counts_calls A n cap xs _ HR.out hn).mono ?_
  rintro e w1 ⟨l, hl, rfl, hcnt, hb1⟩
  have Hl := Lib.hid hl
  cases hok : lensOk xs
  · have hrb : rightB xs = false := by unfold rightB; rw [hok]; rfl
    have Hrb := Lib.hid hrb
    have Hb1 := Lib.hid hb1
    clear hl hcnt hb1 hok hrb
    go_wp2_with (first
      | (refine wpList_store_row rfl 107 _ _ rfl w1.heap.size _ rfl rfl 107 _ (heap_alloc_new _ _) (by rw [ints_size, Hl.out]; kernel_rfl) (by rw [ints_size, Hl.out]; rfl) (ints_one _ _) ?_))
    go_ret
    rw [Hrb.out]
    exact ⟨rfl, (below_new Hb1.out (Nat.le_refl _) _).trans ⟨rfl, rfl, rfl, by simp, fun i hi => setRow_other _ w1.heap.size i _ (by have := Hb1.out.size; omega)⟩⟩
  · obtain rfl := hcnt hok
    have hrb : rightB xs = rightOf (cntOf xs) := by unfold rightB; rw [hok]; rfl
    have hrng := fun j hj => rd_cntOf xs j hj
    rw [hlen.out] at hrng
    generalize cntOf xs = c at *
    have Hrb := Lib.hid hrb
    have Hb1 := Lib.hid hb1
    have Hrng := Lib.hid hrng
    clear hl hcnt hb1 hok hrb hrng
    go_wp2_with (first
      | (refine wpList_store_row rfl 107 _ _ rfl w1.heap.size _ rfl rfl 107 _ (heap_alloc_new _ _) (by rw [ints_size, Hl.out]; kernel_rfl) (by rw [ints_size, Hl.out]; rfl) (ints_one _ _) ?_))
    have HB : Hid (Blk _ w1.heap.size 107 .i64 c) := setRow_heap _ w1.heap.size _ (ints .i64 c).toArray 107 _ (heap_alloc_new w1 (Obj.cells #[.int .i64 0, .int .i64 0, .int .i64 0, .int .i64 0, .int .i64 0, .int .i64 0, .int .i64 0, .int .i64 0, .int .i64 0, .int .i64 0, .int .i64 0, .int .i64 0, .int .i64 0, .int .i64 0, .int .i64 0, .int .i64 0] 107))
    have HW : Hid (Below w.heap.size w (World.setRow (w1.alloc (Obj.cells #[.int .i64 0, .int .i64 0, .int .i64 0, .int .i64 0, .int .i64 0, .int .i64 0, .int .i64 0, .int .i64 0, .int .i64 0, .int .i64 0, .int .i64 0, .int .i64 0, .int .i64 0, .int .i64 0, .int .i64 0, .int .i64 0] 107)) w1.heap.size (ints .i64 c).toArray)) := (below_new Hb1.out (Nat.le_refl _) _).trans ⟨rfl, rfl, rfl, by simp, fun i hi => setRow_other _ w1.heap.size i _ (by have := Hb1.out.size; omega)⟩
    generalize World.setRow (w1.alloc (Obj.cells #[.int .i64 0, .int .i64 0, .int .i64 0, .int .i64 0, .int .i64 0, .int .i64 0, .int .i64 0, .int .i64 0, .int .i64 0, .int .i64 0, .int .i64 0, .int .i64 0, .int .i64 0, .int .i64 0, .int .i64 0, .int .i64 0] 107)) w1.heap.size (ints .i64 c).toArray = W at *
    go_loop [5, 6, 7] (fun l a i => ∃ k : Nat, k ≤ 15 ∧ i = .int .i64 (1 + k) ∧ l = .int .i64 (leftAt c k) ∧ a = .int .i64 (sumAt c k) ∧ Hid (leftOk c k = true) ∧ 0 ≤ leftAt c k) (fun _ _ i => 16 - (intOf i).toNat)
    case atStart => exact ⟨0, by omega, rfl, rfl, rfl, rfl, by show (0 : Int) ≤ 1; omega⟩
    case round =>
      obtain ⟨k, hk, rfl, rfl, rfl, Hok, h0⟩ := hrel
      have hle := leftAt_le c (fun j hj => (Hrng.out j hj).1) k (by omega)
      have hle2 : (2 : Int) ^ k ≤ 2 ^ 15 := by
        have : (2 : Nat) ^ k ≤ 2 ^ 15 := Nat.pow_le_pow_right (by omega) hk
        exact_mod_cast this
      have hle3 : leftAt c k ≤ 32768 := Int.le_trans hle (Int.le_trans hle2 (by decide))
      have hsum := sumAt_le c n Hrng.out k (by omega)
      have hsum2 : sumAt c k ≤ 15 * n := by
        have : (k : Int) * n ≤ 15 * n := Int.mul_le_mul_of_nonneg_right (by omega) (by omega)
        omega
      obtain ⟨hs0, _⟩ := hsum
      clear hle hle2
      by_cases hlt : k < 15
      · have hcell := HB.out.cell (j := 1 + k) (by rw [Hl.out]; omega)
        have hr := Hrng.out (1 + k) (by omega)
        have el : leftAt c (k + 1) = 2 * leftAt c k - rd c (1 + k) := by rw [Nat.add_comm 1 k]; rfl
        have es : sumAt c (k + 1) = sumAt c k + rd c (1 + k) := by rw [Nat.add_comm 1 k]; rfl
        have El := Lib.hid el
        have Es := Lib.hid es
        clear el es
        go_wp2
        · go_ret
          have h1 : 2 * leftAt c k - rd c (1 + k) < 0 := by assumption
          rw [← El.out] at h1
          refine ⟨?_, HW.out⟩
          rw [Hrb.out, show rightOf c = false from by unfold rightOf; rw [leftOk_no c 15 k hlt h1]; rfl]
          rfl
        · go_round
          case rel =>
            have h1 : 0 ≤ 2 * leftAt c k - rd c (1 + k) := by assumption
            refine ⟨k + 1, by omega, by go_num, by rw [El.out], by rw [Es.out], ?_, by rw [El.out]; exact h1⟩
            show leftOk c (k + 1) = true
            have h2 : leftOk c k = true := Hok.out
            rw [leftOk_succ, h2, El.out]
            simpa using h1
          case measure => simp [intOf]; omega
      · obtain rfl : k = 15 := by omega
        have hcell := HB.out.cell (j := 1) (by rw [Hl.out]; omega)
        have hfin : rightB xs = (leftAt c 15 == 0 || (sumAt c 15 == 1 && rd c 1 == 1)) := by
          have h2 : leftOk c 15 = true := Hok.out
          rw [Hrb.out]; unfold rightOf; rw [h2]; rfl
        have Hfin := Lib.hid hfin
        clear hfin
        rcases Int.lt_trichotomy (leftAt c 15) 0 with g1 | g1 | g1
        · omega
        · have g2 : (leftAt c 15 == 0) = true := by simpa using g1
          have G := Lib.hid g1
          clear g1
          go_wp2
          go_ret
          refine ⟨?_, HW.out⟩
          rw [Hfin.out, G.out]
          rfl
        · have g2 : (leftAt c 15 == 0) = false := by simp; omega
          cases g3 : (sumAt c 15 == 1)
          all_goals
            go_wp2
            go_ret
            refine ⟨?_, HW.out⟩
            rw [Hfin.out, g2, g3]
            rfl
#print axioms Right_calls
end Go.Proofs.YtkjoncllnlmdgaaDoor
/-
  The walks of the reference's bits (inkwellref01): Low, Of.
-/
namespace Go.Proofs.YtkjoncllnlmdgaaDoor
open Go.RowKit

theorem elB : ElT Tryd.prog 22 5 (.int .u8 0) 1 1 := ⟨Tryd.underlying22, by kernel_rfl, rfl, by decide, by decide⟩
/-- The lowest bits of a number. -/
def lowOf (x n : Nat) : List Int := (List.range n).map fun i => ((x / 2 ^ i % 2 : Nat) : Int)
theorem lowOf_length (x n : Nat) : (lowOf x n).length = n := by simp [lowOf]
theorem lowOf_succ (x n : Nat) : lowOf x (n + 1) = lowOf x n ++ [((x / 2 ^ n % 2 : Nat) : Int)] := by simp [lowOf, List.range_succ]
set_option maxHeartbeats 1000000 in
set_option maxRecDepth 100000 in
theorem Low_calls (x n : Nat) (w : World) (hx : x < 18446744073709551616) (hn : n ≤ 64) :
    Calls Tryd.prog 46 #[.int .u64 x, .int .i64 n] w fun e w' => ∃ v, e = .returned v ∧ w'.ownsRow w.heap.size 5 1 v n (ints .u8 (lowOf x n)) ∧ Below w.heap.size w w' := by
  go_enter Tryd.func46, Tryd.ntmps46
  go_wp2
  go_loopw [0, 5, 6] (fun y v i wr => ∃ k : Nat, k ≤ n ∧ i = .int .i64 k ∧ y = .int .u64 (x / 2 ^ k : Nat) ∧ Hid (wr.ownsRow w.heap.size 5 1 v k (ints .u8 (lowOf x k))) ∧ Hid (Below w.heap.size w wr)) (fun _ _ i _ => n - (intOf i).toNat)
  case atStart => exact ⟨0, by omega, rfl, by simp, World.ownsRow_nil _ _ _ _, Below.refl _ _⟩
  case round =>
    obtain ⟨k, hk, rfl, rfl, Hown, Hbel⟩ := hrel
    have hsz := Hbel.out.size
    by_cases hlt : k < n
    · obtain ⟨y, hy⟩ : ∃ y : Nat, y = x / 2 ^ k := ⟨_, rfl⟩
      have hyx : y ≤ x := by rw [hy]; exact Nat.div_le_self _ _
      have hnx : x / 2 ^ (k + 1) = y / 2 := by rw [hy, Nat.div_div_eq_div_mul, Nat.pow_succ]
      have hlw := lowOf_succ x k
      rw [← hy] at hlw ⊢
      have Hnx := Lib.hid hnx
      have Hlw := Lib.hid hlw
      clear hnx hlw hy
      obtain ⟨A, c, rfl⟩ := own_slice Hown.out
      obtain ⟨z, hz, hz1, Hz⟩ : ∃ z : Nat, (y : Int) % 2 = (z : Int) ∧ z ≤ 1 ∧ Hid (y % 2 = z) := ⟨y % 2, by omega, by omega, rfl⟩
      rw [Hz.out] at Hlw
      go_wp2_with (at_builtin; refine wpList_app1 rfl _ _ rfl elB Hown.out rfl rfl rfl rfl (by omega) hsz ?_; intro v' w' hown' hbel' _)
      go_roundw
      case rel => exact ⟨k + 1, by omega, by go_num, by rw [Hnx.out]; go_num, by rw [Hlw.out, ints_append]; exact hown', Hbel.out.trans hbel'⟩
      case measure => simp [intOf]; omega
    · obtain rfl : k = n := by omega
      go_wp2
      go_ret
      exact ⟨_, rfl, Hown.out, Hbel.out⟩
/-- The bits of bytes, so many of them. -/
def bitsOf (bs : List Int) (p m : Nat) : List Int := (List.range m).map fun i => ((bitAt bs (p + i) : Nat) : Int)
theorem bitsOf_length (bs : List Int) (p m : Nat) : (bitsOf bs p m).length = m := by simp [bitsOf]
theorem rd_bitsOf {bs : List Int} {p m i : Nat} (h : i < m) : rd (bitsOf bs p m) i = ((bitAt bs (p + i) : Nat) : Int) := by
  rw [rd_getElem (by rw [bitsOf_length]; exact h)]
  simp [bitsOf]
theorem bitsOf_next (bs : List Int) (k : Nat) : bitsOf bs 0 (8 * (k + 1)) = bitsOf bs 0 (8 * k) ++ lowOf (rd bs k).toNat 8 := by
  apply ext_rd (by rw [List.length_append, bitsOf_length, bitsOf_length, lowOf_length]; omega)
  intro j hj
  rw [bitsOf_length] at hj
  rw [rd_bitsOf hj]
  rcases Nat.lt_or_ge j (8 * k) with g | g
  · rw [rd_appL (by rw [bitsOf_length]; exact g), rd_bitsOf g]
  · obtain ⟨i, rfl⟩ : ∃ i, j = 8 * k + i := ⟨j - 8 * k, by omega⟩
    have e : 8 * k + i = (bitsOf bs 0 (8 * k)).length + i := by rw [bitsOf_length]
    rw [e, rd_appR, ← e, rd_getElem (by rw [lowOf_length]; omega)]
    simp only [lowOf, List.getElem_map, List.getElem_range]
    unfold bitAt
    rw [show (0 + (8 * k + i)) / 8 = k from by omega, show (0 + (8 * k + i)) % 8 = i from by omega]
set_option maxHeartbeats 1000000 in
set_option maxRecDepth 100000 in
theorem Of_calls (A : Option Addr) (len cap : Nat) (bs : List Int) (w : World) (hB : Rd w .u8 A len bs) (hb : ∀ j, j < len → 0 ≤ rd bs j ∧ rd bs j ≤ 255) (hlen : len ≤ 1000000) :
    Calls Tryd.prog 18 #[.slice A len cap] w fun e w' => ∃ v, e = .returned v ∧ w'.ownsRow w.heap.size 5 1 v (8 * len) (ints .u8 (bitsOf bs 0 (8 * len))) ∧ Below w.heap.size w w' := by
  have HB := Lib.hid hB
  have Hb := Lib.hid hb
  clear hB hb
  go_enter Tryd.func18, Tryd.ntmps18
  go_wp2
  go_loopw [3, 4] (fun v i wr => ∃ k : Nat, k ≤ len ∧ i = .int .i64 k ∧ Hid (wr.ownsRow w.heap.size 5 1 v (8 * k) (ints .u8 (bitsOf bs 0 (8 * k)))) ∧ Hid (Below w.heap.size w wr)) (fun _ i _ => len - (intOf i).toNat)
  case atStart => exact ⟨0, by omega, rfl, World.ownsRow_nil _ _ _ _, Below.refl _ _⟩
  case round =>
    obtain ⟨k, hk, rfl, Hown, Hbel⟩ := hrel
    have hsz := Hbel.out.size
    by_cases hlt : k < len
    · obtain ⟨b, o, rfl, hcx⟩ := HB.out.2 (by omega)
      have z := kept_cell Hbel.out (hcx k hlt)
      have hr := Hb.out k hlt
      clear hcx
      obtain ⟨y, hy⟩ : ∃ y : Nat, rd bs k = y := ⟨(rd bs k).toNat, by omega⟩
      have hnx := bitsOf_next bs k
      rw [hy, Int.toNat_natCast] at hnx
      rw [hy] at z hr
      have Hnx := Lib.hid hnx
      clear hnx hy
      obtain ⟨A1, c1, rfl⟩ := own_slice Hown.out
      go_wp2_with fail
      refine (Low_calls y 8 _ (by omega) (by omega)).mono ?_
      rintro e w2 ⟨v2, rfl, ho2, hb2⟩
      obtain ⟨A2, c2, rfl, _, hr2⟩ := own_rd ho2
      have ho3 := own_below Hown.out hb2
      have hnil := own_none ho2
      have hsz2 := hb2.size
      have Hr2 := Lib.hid hr2
      have Hb2 := Lib.hid hb2
      have Ho3 := Lib.hid ho3
      have Hnil := Lib.hid hnil
      clear ho2 hr2 hb2 ho3 hnil
      go_wp2_with (at_builtin; refine wpList_appRd rfl _ _ rfl elB Ho3.out rfl rfl Hr2.out Hnil.out (by omega) (by omega) ?_; intro v' w' hown' hg')
      go_roundw
      case rel =>
        exact ⟨k + 1, by omega, by go_num, by rw [Hnx.out]; exact hown', below_app (below_seq Hbel.out (Nat.le_refl _) Hb2.out) (Nat.le_refl _) Ho3.out (Nat.le_refl _) hg'⟩
      case measure => simp [intOf]; omega
    · obtain rfl : k = len := by omega
      go_wp2
      go_ret
      exact ⟨_, rfl, Hown.out, Hbel.out⟩
end Go.Proofs.YtkjoncllnlmdgaaDoor
/-
  Bits as bytes: the lowest bit first (no program).
-/
namespace Go.Proofs.YtkjoncllnlmdgaaDoor
open Go.RowKit

/-- The number that bits tell, the lowest first. -/
def pk (f : Nat → Nat) : Nat → Nat
  | 0 => 0
  | k + 1 => pk f k + f k * 2 ^ k
theorem pk_lt {f : Nat → Nat} (h : ∀ i, f i ≤ 1) (k : Nat) : pk f k < 2 ^ k := by
  induction k with
  | zero => simp [pk]
  | succ k ih =>
    have := Nat.mul_le_mul_right (2 ^ k) (h k)
    simp only [pk, Nat.pow_succ]
    omega
theorem pk_congr {f g : Nat → Nat} {k : Nat} (h : ∀ i, i < k → f i = g i) : pk f k = pk g k := by
  induction k with
  | zero => rfl
  | succ k ih =>
    simp only [pk]
    rw [ih (fun i hi => h i (by omega)), h k (by omega)]
theorem pk_bit {f : Nat → Nat} (h : ∀ i, f i ≤ 1) : ∀ (k i : Nat), i < k → pk f k / 2 ^ i % 2 = f i := by
  intro k
  induction k with
  | zero => intro i hi; omega
  | succ k ih =>
    intro i hi
    simp only [pk]
    rcases Nat.lt_or_ge i k with g | g
    · have e : f k * 2 ^ k = (f k * 2 ^ (k - i - 1) * 2) * 2 ^ i := by
        rw [Nat.mul_assoc, Nat.mul_assoc, ← Nat.pow_succ', ← Nat.pow_add]
        congr 2
        omega
      rw [e, Nat.add_mul_div_right _ _ (Nat.pow_pos (by omega)), Nat.add_mul_mod_self_right]
      exact ih i g
    · obtain rfl : i = k := by omega
      rw [Nat.add_mul_div_right _ _ (Nat.pow_pos (by omega)), Nat.div_eq_of_lt (pk_lt h i), Nat.zero_add]
      have := h i
      omega
theorem numAt_pk (bs : List Int) (p k : Nat) : numAt bs p k = pk (fun i => bitAt bs (p + i)) k := by
  induction k with
  | zero => rfl
  | succ k ih => simp only [numAt, pk, ih]
def Bit01 (L : List Int) : Prop := ∀ x ∈ L, x = 0 ∨ x = 1
theorem Bit01.rd {L : List Int} (h : Bit01 L) (i : Nat) : Go.Proofs.YtkjoncllnlmdgaaDoor.rd L i = 0 ∨ Go.Proofs.YtkjoncllnlmdgaaDoor.rd L i = 1 := by
  rcases Nat.lt_or_ge i L.length with g | g
  · rw [rd_getElem g]; exact h _ (List.getElem_mem _)
  · left
    unfold Go.Proofs.YtkjoncllnlmdgaaDoor.rd
    rw [List.getD_eq_getElem?_getD, List.getElem?_eq_none g]
    rfl
theorem Bit01.app {a b : List Int} (ha : Bit01 a) (hb : Bit01 b) : Bit01 (a ++ b) := fun x hx => (List.mem_append.1 hx).elim (ha x) (hb x)
theorem rd_out {L : List Int} {i : Nat} (h : L.length ≤ i) : rd L i = 0 := by
  unfold rd
  rw [List.getD_eq_getElem?_getD, List.getElem?_eq_none h]
  rfl
def packAt (L : List Int) (j : Nat) : Nat := pk (fun i => (rd L (8 * j + i)).toNat) 8
theorem packAt_lt {L : List Int} (h : Bit01 L) (j : Nat) : packAt L j < 256 := pk_lt (fun i => by rcases h.rd (8 * j + i) with e | e <;> rw [e] <;> decide) 8
/-- The bytes of bits; the last ones filled up with 0. -/
def packB (L : List Int) : List Int := (List.range ((L.length + 7) / 8)).map fun j => (packAt L j : Int)
theorem packB_length (L : List Int) : (packB L).length = (L.length + 7) / 8 := by simp [packB]
theorem rd_packB {L : List Int} {j : Nat} (h : j < (L.length + 7) / 8) : rd (packB L) j = (packAt L j : Int) := by
  rw [rd_getElem (by rw [packB_length]; exact h)]
  simp [packB]
theorem bitAt_packB {L : List Int} (h : Bit01 L) {i : Nat} (hi : i < 8 * ((L.length + 7) / 8)) : bitAt (packB L) i = (rd L i).toNat := by
  unfold bitAt
  rw [rd_packB (by omega), Int.toNat_natCast]
  unfold packAt
  rw [pk_bit (fun i' => by rcases h.rd (8 * (i / 8) + i') with e | e <;> rw [e] <;> decide) 8 (i % 8) (by omega), show 8 * (i / 8) + i % 8 = i from by omega]
theorem packB_byte {L : List Int} (h : Bit01 L) (j : Nat) (hj : j < (L.length + 7) / 8) : 0 ≤ rd (packB L) j ∧ rd (packB L) j ≤ 255 := by
  have := packAt_lt h j
  rw [rd_packB hj]
  omega
theorem numAt_byte {L : List Int} (h : Bit01 L) {j : Nat} (hj : j < (L.length + 7) / 8) : numAt (packB L) (8 * j) 8 = packAt L j := by
  rw [numAt_pk]
  exact pk_congr (fun i hi => bitAt_packB h (by omega))
/-- A bit more, where a byte begins. -/
theorem packB_new {L : List Int} {x : Int} (hx : x = 0 ∨ x = 1) (h8 : L.length % 8 = 0) : packB (L ++ [x]) = packB L ++ [x] := by
  apply ext_rd (by rw [List.length_append, packB_length, packB_length, List.length_append]; simp; omega)
  intro j hj
  rw [packB_length, List.length_append, List.length_cons, List.length_nil] at hj
  rw [rd_packB (by rw [List.length_append]; simpa using hj)]
  rcases Nat.lt_or_ge j (L.length / 8) with g | g
  · rw [rd_appL (by rw [packB_length]; omega), rd_packB (by omega)]
    unfold packAt
    rw [pk_congr (fun i hi => by rw [rd_appL (by omega)])]
  · have e : j = (packB L).length + 0 := by rw [packB_length]; omega
    rw [e, rd_appR, ← e]
    have e8 : 8 * j = L.length := by rw [e, packB_length]; omega
    unfold packAt
    have key : ∀ i, i < 8 → (rd (L ++ [x]) (8 * j + i)).toNat = if i = 0 then x.toNat else 0 := by
      intro i hi
      rw [e8, rd_appR]
      by_cases h0 : i = 0
      · subst h0; rfl
      · rw [if_neg h0, rd_out (by simp; omega)]; rfl
    rw [pk_congr key]
    rcases hx with rfl | rfl <;> rfl
/-- A bit more, inside a byte. -/
theorem packB_in {L : List Int} {x : Int} (_hL : Bit01 L) (hx : x = 0 ∨ x = 1) (h8 : L.length % 8 ≠ 0) : packB (L ++ [x]) = (packB L).set (L.length / 8) ((packAt L (L.length / 8) : Int) + x * 2 ^ (L.length % 8)) ∧ packAt L (L.length / 8) < 2 ^ (L.length % 8) := by
  have hlow : packAt L (L.length / 8) = pk (fun i => (rd L (8 * (L.length / 8) + i)).toNat) (L.length % 8) := by
    unfold packAt
    have key : ∀ d k, 8 * (L.length / 8) + k ≥ L.length → pk (fun i => (rd L (8 * (L.length / 8) + i)).toNat) (k + d) = pk (fun i => (rd L (8 * (L.length / 8) + i)).toNat) k := by
      intro d k hk
      induction d with
      | zero => rfl
      | succ d ih =>
        show pk _ (k + d) + (rd L (8 * (L.length / 8) + (k + d))).toNat * 2 ^ (k + d) = _
        rw [ih, rd_out (by omega)]
        simp
    have := key (8 - L.length % 8) (L.length % 8) (by omega)
    rwa [show L.length % 8 + (8 - L.length % 8) = 8 from by omega] at this
  refine ⟨?_, by rw [hlow]; exact pk_lt (fun i => by rcases _hL.rd (8 * (L.length / 8) + i) with e | e <;> rw [e] <;> decide) _⟩
  apply ext_rd (by rw [List.length_set, packB_length, packB_length, List.length_append, List.length_cons, List.length_nil]; omega)
  intro j hj
  rw [packB_length, List.length_append, List.length_cons, List.length_nil] at hj
  rw [rd_packB (by rw [List.length_append]; simpa using hj), rd_set (by rw [packB_length]; omega)]
  by_cases g : L.length / 8 = j
  · rw [if_pos g, hlow, g]
    have key : ∀ d, L.length % 8 + 1 + d ≤ 8 → pk (fun i => (rd (L ++ [x]) (8 * j + i)).toNat) (L.length % 8 + 1 + d) = pk (fun i => (rd L (8 * j + i)).toNat) (L.length % 8) + x.toNat * 2 ^ (L.length % 8) := by
      intro d hd
      induction d with
      | zero =>
        show pk _ (L.length % 8) + (rd (L ++ [x]) (8 * j + L.length % 8)).toNat * 2 ^ (L.length % 8) = _
        rw [pk_congr (g := fun i => (rd L (8 * j + i)).toNat) (fun i hi => by rw [rd_appL (by omega)])]
        have e : 8 * j + L.length % 8 = L.length + 0 := by omega
        rw [e, rd_appR]
        rfl
      | succ d ih =>
        show pk _ (L.length % 8 + 1 + d) + (rd (L ++ [x]) (8 * j + (L.length % 8 + 1 + d))).toNat * 2 ^ (L.length % 8 + 1 + d) = _
        rw [ih (by omega), rd_out (by rw [List.length_append, List.length_cons, List.length_nil]; omega)]
        simp
    have h9 := key (7 - L.length % 8) (by omega)
    rw [show L.length % 8 + 1 + (7 - L.length % 8) = 8 from by omega] at h9
    unfold packAt
    rw [h9, Int.natCast_add, Int.natCast_mul, Int.natCast_pow]
    rcases hx with rfl | rfl <;> rfl
  · rw [if_neg g, rd_packB (by omega)]
    unfold packAt
    rw [pk_congr (fun i hi => by rw [rd_appL (by omega)])]
theorem lowOf_bit (x n : Nat) : Bit01 (lowOf x n) := fun y hy => by
  obtain ⟨i, _, rfl⟩ := List.mem_map.1 hy
  have := Nat.mod_lt (x / 2 ^ i) (show 0 < 2 by omega)
  omega
theorem rd_lowOf {x n i : Nat} (h : i < n) : rd (lowOf x n) i = ((x / 2 ^ i % 2 : Nat) : Int) := by
  rw [rd_getElem (by rw [lowOf_length]; exact h)]
  simp [lowOf]
end Go.Proofs.YtkjoncllnlmdgaaDoor
/-
  Plain facts about canonical codes (no program): first codes, codes, what is left.
-/
namespace Go.Proofs.YtkjoncllnlmdgaaDoor

/-- The first code of a length. -/
def firstAt (c : List Int) : Nat → Int
  | 0 => 0
  | k + 1 => 2 * (firstAt c k + rd c k)
theorem firstAt_range (c : List Int) (n : Int) (hc : ∀ j, j < 16 → 0 ≤ rd c j ∧ rd c j ≤ n) (k : Nat) (hk : k ≤ 16) : 0 ≤ firstAt c k ∧ firstAt c k + 2 * n ≤ 2 * n * 2 ^ k := by
  induction k with
  | zero => simp [firstAt]
  | succ k ih =>
    have h1 := ih (by omega)
    have h2 := hc k (by omega)
    have e : 2 * n * 2 ^ (k + 1) = 2 * (2 * n * 2 ^ k) := by rw [Int.pow_succ, ← Int.mul_assoc, Int.mul_comm _ 2]
    rw [e]
    simp only [firstAt]
    omega
theorem firstAt_le (c : List Int) (n : Int) (hn : 0 ≤ n) (hc : ∀ j, j < 16 → 0 ≤ rd c j ∧ rd c j ≤ n) (k : Nat) (hk : k ≤ 16) : 0 ≤ firstAt c k ∧ firstAt c k ≤ 131072 * n := by
  have h1 := firstAt_range c n hc k hk
  have h2 : 2 * n * 2 ^ k ≤ 2 * n * 2 ^ 16 := by
    refine Int.mul_le_mul_of_nonneg_left ?_ (by omega)
    have : (2 : Nat) ^ k ≤ 2 ^ 16 := Nat.pow_le_pow_right (by omega) hk
    exact_mod_cast this
  have h3 : 2 * n * 2 ^ 16 = 131072 * n := by
    rw [show ((2 : Int) ^ 16) = 65536 from by decide +kernel]
    omega
  omega
def firstsOf (c : List Int) : List Int := (List.range 16).map (firstAt c)
theorem firstsOf_length (c : List Int) : (firstsOf c).length = 16 := by simp [firstsOf]
theorem rd_firstsOf (c : List Int) (j : Nat) (h : j < 16) : rd (firstsOf c) j = firstAt c j := by
  rw [rd_getElem (by rw [firstsOf_length]; exact h)]
  simp [firstsOf]
/-- How many of the first s have that length. -/
def before (xs : List Int) (k : Int) (s : Nat) : Nat := ((xs.take s).filter fun x => x == k).length
theorem before_zero (xs : List Int) (k : Int) : before xs k 0 = 0 := by simp [before]
theorem before_hit (xs : List Int) (k : Int) (s : Nat) (hs : s < xs.length) (h : rd xs s = k) : before xs k (s + 1) = before xs k s + 1 := by
  unfold before
  rw [List.take_succ_eq_append_getElem hs, ← rd_getElem hs, List.filter_append, h]
  simp
theorem before_miss (xs : List Int) (k : Int) (s : Nat) (hs : s < xs.length) (h : rd xs s ≠ k) : before xs k (s + 1) = before xs k s := by
  unfold before
  rw [List.take_succ_eq_append_getElem hs, ← rd_getElem hs, List.filter_append]
  have : (rd xs s == k) = false := by simpa using h
  simp [this]
theorem before_le (xs : List Int) (k : Int) (s : Nat) : before xs k s ≤ s := by
  have h1 := List.length_filter_le (fun x => x == k) (xs.take s)
  have h2 := List.length_take_le s xs
  unfold before
  omega
theorem rd_cntOf_pos (xs : List Int) (k : Nat) (h : 0 < k) (h2 : k < 16) : rd (cntOf xs) k = (before xs k xs.length : Nat) := by
  unfold cntOf
  rw [rd_set (by rw [cntTo_length]; omega), if_neg (by omega), rd_cntTo _ _ _ h2]
  rfl
theorem rd_cntOf_zero (xs : List Int) : rd (cntOf xs) 0 = 0 := by
  unfold cntOf
  rw [rd_set (by rw [cntTo_length]; omega), if_pos rfl]
/-- The next code of length k behind the first s symbols. -/
def nextCode (xs : List Int) (k s : Nat) : Int := firstAt (cntOf xs) k + (before xs k s : Nat)
theorem nextCode_over (xs : List Int) (k : Nat) (h : 0 < k) (h2 : k < 16) : nextCode xs (k + 1) 0 = 2 * nextCode xs k xs.length := by
  unfold nextCode
  rw [before_zero]
  simp only [firstAt]
  rw [rd_cntOf_pos xs k h h2]
  omega
theorem nextCode_one (xs : List Int) : nextCode xs 1 0 = 0 := by
  unfold nextCode
  rw [before_zero]
  simp only [firstAt]
  rw [rd_cntOf_zero]
  rfl
theorem nextCode_range (xs : List Int) (k s : Nat) (hk : k ≤ 16) : 0 ≤ nextCode xs k s ∧ nextCode xs k s ≤ 131072 * xs.length + s := by
  have h1 := firstAt_le (cntOf xs) xs.length (by omega) (rd_cntOf xs) k hk
  have h2 := before_le xs k s
  unfold nextCode
  omega
/-- The code of a symbol; 0, if it has none. -/
def codeAt (xs : List Int) (s : Nat) : Int := if 0 < rd xs s ∧ rd xs s ≤ 15 then nextCode xs (rd xs s).toNat s else 0
def codesOf (xs : List Int) : List Int := (List.range xs.length).map (codeAt xs)
theorem codesOf_length (xs : List Int) : (codesOf xs).length = xs.length := by simp [codesOf]
theorem rd_codesOf (xs : List Int) (j : Nat) (h : j < xs.length) : rd (codesOf xs) j = codeAt xs j := by
  rw [rd_getElem (by rw [codesOf_length]; exact h)]
  simp [codesOf]
end Go.Proofs.YtkjoncllnlmdgaaDoor
