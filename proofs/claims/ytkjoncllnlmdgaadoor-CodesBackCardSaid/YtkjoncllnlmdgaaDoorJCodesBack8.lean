/-
  Texts joined into one file: PutP, Num, Trim, Ord, Nodes, NodesB.
-/
import Derived.Test.YtkjoncllnlmdgaaDoorJCodesBack5
import Derived.Test.YtkjoncllnlmdgaaDoorJCodesBack1
import Derived.Test.YtkjoncllnlmdgaaDoorJCodesBack7
import Derived.Test.YtkjoncllnlmdgaaDoorJCodesBack4
import Derived.Laws.Slices
import Derived.Test.YtkjoncllnlmdgaaDoorJCodesBack6
import Derived.IntWalk
import Derived.BigQuiet
import Derived.BigRegion
import Derived.Deep.RegionWith
import Derived.Deep.RegionHeld3
import Derived.Deep.AppendLies
import Derived.Deep.RegionLaw
import Derived.Test.YtkjoncllnlmdgaaDoorJCodesBack3
/-
  The bits of two codes' lengths (no program).
-/
namespace Go.Proofs.YtkjoncllnlmdgaaDoor
open Go.RowKit

structure ItemOk (it : Item) : Prop where
  s : 0 ≤ it.s ∧ it.s ≤ 18
  bits : 0 ≤ it.bits ∧ it.bits ≤ 7
  extra : 0 ≤ it.extra ∧ it.extra ≤ 127
theorem itemAt_ok {xs : List Int} (h : ∀ j, j < xs.length → 0 ≤ rd xs j ∧ rd xs j ≤ 15) {i : Nat} (hi : i < xs.length) : ItemOk (itemAt xs i).1 := by
  have hx := h i hi
  have hr := runLen_pos hi
  unfold itemAt
  split
  · exact ⟨⟨by simp, by simp⟩, ⟨by simp, by simp⟩, by simp only []; omega⟩
  · rename_i h1
    split
    · rename_i h2
      exact ⟨⟨by simp, by simp⟩, ⟨by simp, by simp⟩, by simp only []; omega⟩
    · split
      · exact ⟨⟨by simp, by simp⟩, ⟨by simp, by simp⟩, by simp only []; omega⟩
      · exact ⟨by simp only []; omega, ⟨by simp, by simp⟩, ⟨by simp, by simp⟩⟩
theorem itemsFrom_ok {xs : List Int} (h : ∀ j, j < xs.length → 0 ≤ rd xs j ∧ rd xs j ≤ 15) : ∀ (f i : Nat), ∀ it ∈ itemsFrom xs f i, ItemOk it := by
  intro f
  induction f with
  | zero => intro i it hit; cases hit
  | succ f ih =>
    intro i it hit
    unfold itemsFrom at hit
    split at hit
    · rename_i hi
      rcases List.mem_cons.1 hit with rfl | hit
      · exact itemAt_ok h hi
      · exact ih _ it hit
    · cases hit
theorem items_ok {xs : List Int} (h : ∀ j, j < xs.length → 0 ≤ rd xs j ∧ rd xs j ≤ 15) : ∀ it ∈ items xs, ItemOk it := itemsFrom_ok h _ _
/-- The symbol, the bits and the number of an item. -/
def itS (its : List Item) (k : Nat) : Nat := (rd (its.map Item.s) k).toNat
def itB (its : List Item) (k : Nat) : Nat := (rd (its.map Item.bits) k).toNat
def itE (its : List Item) (k : Nat) : Nat := (rd (its.map Item.extra) k).toNat
structure ItAt (its : List Item) (k : Nat) : Prop where
  s : (its.map Item.s)[k]? = some ((itS its k : Nat) : Int)
  s18 : itS its k ≤ 18
  b7 : itB its k ≤ 7
  e127 : itE its k ≤ 127
theorem it_at {its : List Item} (h : ∀ it ∈ its, ItemOk it) {k : Nat} (hk : k < its.length) : its[k] = ⟨(itS its k : Nat), (itB its k : Nat), (itE its k : Nat)⟩ ∧ itS its k ≤ 18 ∧ itB its k ≤ 7 ∧ itE its k ≤ 127 := by
  have ho := h its[k] (List.getElem_mem _)
  have e1 : rd (its.map Item.s) k = its[k].s := by rw [rd_getElem (by simpa using hk)]; simp
  have e2 : rd (its.map Item.bits) k = its[k].bits := by rw [rd_getElem (by simpa using hk)]; simp
  have e3 : rd (its.map Item.extra) k = its[k].extra := by rw [rd_getElem (by simpa using hk)]; simp
  obtain ⟨h1, h2, h3⟩ := ho
  unfold itS itB itE
  rw [e1, e2, e3]
  generalize its[k] = it at *
  obtain ⟨s, b, e⟩ := it
  simp only at *
  refine ⟨?_, by omega, by omega, by omega⟩
  rw [Int.toNat_of_nonneg h1.1, Int.toNat_of_nonneg h2.1, Int.toNat_of_nonneg h3.1]
theorem it_cells {its : List Item} (h : ∀ it ∈ its, ItemOk it) {k : Nat} (hk : k < its.length) : (itemCells its)[k * 3]? = some (.int .i64 (itS its k : Nat)) ∧ (itemCells its)[k * 3 + 1]? = some (.int .i64 (itB its k : Nat)) ∧ (itemCells its)[k * 3 + 2]? = some (.int .u64 (itE its k : Nat)) := by
  have h1 := itemCells_at its k hk
  rw [(it_at h hk).1] at h1
  exact h1
/-- How often each item is met. -/
def wtsIt (its : List Item) : Nat → List Int
  | 0 => List.replicate 19 0
  | k + 1 => (wtsIt its k).set (itS its k) (rd (wtsIt its k) (itS its k) + 1)
theorem wtsIt_length (its : List Item) (k : Nat) : (wtsIt its k).length = 19 := by
  induction k with
  | zero => simp [wtsIt]
  | succ k ih => simp [wtsIt, ih]
theorem wtsIt_le (its : List Item) (hs : ∀ k, k < its.length → itS its k ≤ 18) : ∀ (k j : Nat), k ≤ its.length → 0 ≤ rd (wtsIt its k) j ∧ rd (wtsIt its k) j ≤ k := by
  intro k
  induction k with
  | zero =>
    intro j _
    have : rd (wtsIt its 0) j = 0 := rd_zeros 19 j
    omega
  | succ k ih =>
    intro j hk
    have h1 := ih j (by omega)
    have h2 := ih (itS its k) (by omega)
    have h3 := hs k (by omega)
    have e : rd (wtsIt its (k + 1)) j = if itS its k = j then rd (wtsIt its k) (itS its k) + 1 else rd (wtsIt its k) j := by
      show rd ((wtsIt its k).set _ _) j = _
      rw [rd_set (by rw [wtsIt_length]; omega)]
    rw [e]
    split <;> omega
theorem sum_le_mul : ∀ {l : List Int} {B : Int}, 0 ≤ B → (∀ x ∈ l, x ≤ B) → l.sum ≤ l.length * B := by
  intro l B hB
  induction l with
  | nil => intro _; simp
  | cons x l ih =>
    intro h
    have h1 := ih (fun y hy => h y (by simp [hy]))
    have h2 := h x (by simp)
    rw [List.sum_cons, List.length_cons, Int.natCast_add, Int.add_mul]
    omega
theorem wtsIt_nn (its : List Item) (hs : ∀ k, k < its.length → itS its k ≤ 18) (k : Nat) (hk : k ≤ its.length) : ∀ x ∈ wtsIt its k, 0 ≤ x ∧ x ≤ k := fun x hx => by
  obtain ⟨j, hj, rfl⟩ := List.getElem_of_mem hx
  rw [← rd_getElem hj]
  exact wtsIt_le its hs k j hk
theorem wtsIt_sum (its : List Item) (hs : ∀ k, k < its.length → itS its k ≤ 18) (k : Nat) (hk : k ≤ its.length) : (wtsIt its k).sum ≤ 19 * k := by
  have h := sum_le_mul (l := wtsIt its k) (B := k) (by omega) (fun x hx => (wtsIt_nn its hs k hk x hx).2)
  rw [wtsIt_length] at h
  exact h
/-- The items' code's lengths. -/
def lensIt (its : List Item) : List Int := lensOf 7 (wtsIt its its.length)
theorem lensIt_length (its : List Item) : (lensIt its).length = 19 := by unfold lensIt; rw [lensOf_length, wtsIt_length]
theorem lensIt_few (its : List Item) : (posTo (wtsIt its its.length) (wtsIt its its.length).length).length ≤ 2 ^ 7 := by
  have := posTo_le (wtsIt its its.length) (wtsIt its its.length).length
  rw [wtsIt_length] at this ⊢
  have : (2 : Nat) ^ 7 = 128 := by decide
  omega
theorem lensIt_rng (its : List Item) (hs : ∀ k, k < its.length → itS its k ≤ 18) (j : Nat) : 0 ≤ rd (lensIt its) j ∧ rd (lensIt its) j ≤ 7 := by
  rcases Nat.lt_or_ge j 19 with h | h
  · obtain ⟨wt, e1, e2, e3, e4⟩ := lensOf_is (m := 7) (by omega) (fun x hx => (wtsIt_nn its hs its.length (Nat.le_refl _) x hx).1) (lensIt_few its)
    unfold lensIt
    rw [e1]
    have h1 := onceM_pos wt j (by rw [e2, wtsIt_length]; exact h)
    refine ⟨h1.1, ?_⟩
    rw [rd_getElem (by rw [onceM_length, e2, wtsIt_length]; exact h)]
    exact e4 _ (List.getElem_mem _)
  · rw [rd_out (by rw [lensIt_length]; exact h)]
    omega
theorem lensIt_ok (its : List Item) (hs : ∀ k, k < its.length → itS its k ≤ 18) : lensOk (lensIt its) = true := by
  unfold lensOk
  rw [List.all_eq_true]
  intro x hx
  obtain ⟨j, hj, rfl⟩ := List.getElem_of_mem hx
  have := lensIt_rng its hs j
  rw [rd_getElem hj] at this
  simp
  omega
/-- The front without 0s at its end, but at least so long. -/
def tn (l : List Int) (least : Nat) : Nat → Nat
  | 0 => least
  | d + 1 => if rd l (least + d) = 0 then tn l least d else least + d + 1
theorem tn_rng (l : List Int) (least d : Nat) : least ≤ tn l least d ∧ tn l least d ≤ least + d := by
  induction d with
  | zero => exact ⟨Nat.le_refl _, Nat.le_refl _⟩
  | succ d ih => unfold tn; split <;> omega
def ordV (ls : List Int) : List Int := ordL.map fun s => rd ls s
theorem ordV_length (ls : List Int) : (ordV ls).length = 19 := by simp [ordV, ordL]
theorem rd_ordV {ls : List Int} {j : Nat} (h : j < 19) : rd (ordV ls) j = rd ls (ordL.getD j 0) := by
  rw [rd_getElem (by rw [ordV_length]; exact h)]
  simp only [ordV, List.getElem_map]
  rw [List.getD_eq_getElem?_getD, List.getElem?_eq_getElem (show j < ordL.length from h)]
  rfl
def headS (a b many : Nat) : List Int := lowOf (a - 257) 5 ++ lowOf (b - 1) 5 ++ lowOf (many - 4) 4
def bitsIt (ls : List Int) (its : List Item) (k : Nat) : List Int := (List.range k).flatMap fun j => hiOf (rd (codesOf ls) (itS its j)).toNat (rd ls (itS its j)).toNat ++ lowOf (itE its j) (itB its j)
theorem bitsIt_succ (ls : List Int) (its : List Item) (k : Nat) : bitsIt ls its (k + 1) = bitsIt ls its k ++ hiOf (rd (codesOf ls) (itS its k)).toNat (rd ls (itS its k)).toNat ++ lowOf (itE its k) (itB its k) := by
  simp [bitsIt, List.range_succ, List.append_assoc]
theorem bitsIt_length (ls : List Int) (its : List Item) (hs : ∀ j, 0 ≤ rd ls j ∧ rd ls j ≤ 7) (hb : ∀ k, k < its.length → itB its k ≤ 7) : ∀ k, k ≤ its.length → (bitsIt ls its k).length ≤ 14 * k := by
  intro k
  induction k with
  | zero => intro _; simp [bitsIt]
  | succ k ih =>
    intro hk
    have h1 := ih (by omega)
    have h2 := hs (itS its k)
    have h3 := hb k (by omega)
    rw [bitsIt_succ, List.length_append, List.length_append, hiOf_length, lowOf_length]
    omega
/-- The items of the lengths of symbols, and of distances. -/
def itsOf (xs ys : List Int) : List Item := items (xs.take (tn xs 257 (xs.length - 257)) ++ ys.take (tn ys 1 (ys.length - 1)))
def manyOf (its : List Item) : Nat := tn (ordV (lensIt its)) 4 15
/-- The bits of the lengths of symbols, and of distances. -/
def putS (xs ys : List Int) : List Int :=
  headS (tn xs 257 (xs.length - 257)) (tn ys 1 (ys.length - 1)) (manyOf (itsOf xs ys)) ++ lows (ordV (lensIt (itsOf xs ys))) 3 (manyOf (itsOf xs ys)) ++ bitsIt (lensIt (itsOf xs ys)) (itsOf xs ys) (itsOf xs ys).length
end Go.Proofs.YtkjoncllnlmdgaaDoor
/-
  The walks of the reference's Num and order; parts of the bits.
-/
namespace Go.Proofs.YtkjoncllnlmdgaaDoor
open Go.RowKit

theorem bits_part {w : World} {b o m : Nat} {bs : List Int} {p : Nat} (h : Rd w .u8 (some ⟨b, o, none⟩) m (bitsOf bs p m)) (k j : Nat) (hk : k + j ≤ m) : Rd w .u8 (some ⟨b, o + k, none⟩) j (bitsOf bs (p + k) j) :=
  ⟨by rw [bitsOf_length], fun hj => ⟨b, o + k, rfl, fun i hi => by
    obtain ⟨b', o', e, hc⟩ := h.2 (by omega)
    cases e
    have h9 := hc (k + i) (by omega)
    rw [rd_bitsOf (by omega)] at h9
    rw [rd_bitsOf hi, Nat.add_assoc, Nat.add_assoc]
    exact h9⟩⟩
theorem bits_none {w : World} {A : Option Addr} {bs : List Int} (p : Nat) : Rd w .u8 A 0 (bitsOf bs p 0) := ⟨by rw [bitsOf_length], fun h => by omega⟩
set_option maxHeartbeats 1000000 in
theorem Num_calls (A : Option Addr) (m c p : Nat) (bs : List Int) (w : World) (hA : Rd w .u8 A m (bitsOf bs p m)) (hm : m ≤ 60) :
    Calls Tryd.prog 42 #[.slice A m c] w fun e w' => e = .returned (.int .u64 (numAt bs p m : Nat)) ∧ w = w' := by
  have HA := Lib.hid hA
  clear hA
  go_enter Tryd.func42, Tryd.ntmps42
  go_wp2
  go_loop [3, 4] (fun x i => ∃ k j : Nat, k + j = m ∧ i = .int .i64 ((k : Int) - 1) ∧ x = .int .u64 (numAt bs (p + k) j : Nat)) (fun _ i => (intOf i + 1).toNat)
  case atStart => exact ⟨m, 0, by omega, rfl, rfl⟩
  case round =>
    obtain ⟨k, j, hk, rfl, rfl⟩ := hrel
    by_cases hlt : 0 < k
    · obtain ⟨b, o, rfl, hc⟩ := HA.out.2 (by omega)
      have z := hc (k - 1) (by omega)
      rw [rd_bitsOf (by omega)] at z
      have hx := numAt_lt bs (p + k) j
      have hpow : (2 : Nat) ^ j ≤ 2 ^ 60 := Nat.pow_le_pow_right (by omega) (by omega)
      have hp60 : (2 : Nat) ^ 60 = 1152921504606846976 := by decide
      have hbt := bitAt_le bs (p + (k - 1))
      have hcons := numAt_cons bs (p + (k - 1)) j
      rw [show p + (k - 1) + 1 = p + k from by omega] at hcons
      obtain ⟨X, hX⟩ : ∃ X, X = numAt bs (p + k) j := ⟨_, rfl⟩
      obtain ⟨Y, hY⟩ : ∃ Y, Y = bitAt bs (p + (k - 1)) := ⟨_, rfl⟩
      rw [← hX, ← hY] at hcons
      rw [← hX] at hx ⊢
      rw [← hY] at z hbt
      have Hcons := Lib.hid hcons
      have hX2 : X ≤ 1152921504606846976 := by omega
      have s1 : ((k : Int) - 1).toNat = k - 1 := by omega
      have s2 : (0 : Int) ≤ (k : Int) - 1 := by omega
      clear hc hcons hX hY hx hpow hp60
      go_wp2
      go_round
      case rel => exact ⟨k - 1, j + 1, by omega, by rw [show (((k - 1 : Nat) : Int)) = (k : Int) - 1 from by omega], by rw [Hcons.out]; go_num⟩
      case measure => simp [intOf]; omega
    · obtain rfl : k = 0 := by omega
      obtain rfl : j = m := by omega
      go_wp2
      go_ret
      exact ⟨rfl, rfl⟩
set_option maxHeartbeats 1000000 in
set_option maxRecDepth 100000 in
theorem order_calls (w : World) :
    Calls Tryd.prog 43 #[] w fun e w' => ∃ g, e = .returned (.slice (some ⟨g, 0, none⟩) 19 19) ∧ (∀ j, j < 19 → w'.cell? ⟨g, j, none⟩ = some (.int .i64 (ordL.getD j 0 : Nat))) ∧ Below w.heap.size w w' := by
  go_enter Tryd.func43, Tryd.ntmps43
  go_wp2
  go_ret
  refine ⟨w.heap.size, rfl, fun j hj => ?_, (Below.refl _ _).alloc (Nat.le_refl _) _⟩
  have key : ∀ j : Nat, j < 19 → (#[Value.int .i64 16, .int .i64 17, .int .i64 18, .int .i64 0, .int .i64 8, .int .i64 7, .int .i64 9, .int .i64 6, .int .i64 10, .int .i64 5, .int .i64 11, .int .i64 4, .int .i64 12, .int .i64 3, .int .i64 13, .int .i64 2, .int .i64 14, .int .i64 1, .int .i64 15].toList)[j]? = some (Value.int .i64 (ordL.getD j 0 : Nat)) := by
    intro j hj
    have : j = 0 ∨ j = 1 ∨ j = 2 ∨ j = 3 ∨ j = 4 ∨ j = 5 ∨ j = 6 ∨ j = 7 ∨ j = 8 ∨ j = 9 ∨ j = 10 ∨ j = 11 ∨ j = 12 ∨ j = 13 ∨ j = 14 ∨ j = 15 ∨ j = 16 ∨ j = 17 ∨ j = 18 := by omega
    rcases this with rfl | rfl | rfl | rfl | rfl | rfl | rfl | rfl | rfl | rfl | rfl | rfl | rfl | rfl | rfl | rfl | rfl | rfl | rfl <;> rfl
  have h := news_at w _ 3 j _ (key j hj)
  rw [addr_add, Nat.zero_add] at h
  exact h
end Go.Proofs.YtkjoncllnlmdgaaDoor
/-
  The walks of trim: the program's, and the reference's.
-/
namespace Go.Proofs.YtkjoncllnlmdgaaDoor
open Go.RowKit

set_option maxHeartbeats 1000000 in
set_option maxRecDepth 100000 in
theorem trim_calls (A : Option Addr) (n c least : Nat) (xs : List Int) (w : World) (hR : Rd w .i64 A n xs) (h1 : 1 ≤ least) (hl : least ≤ n) (hn : n ≤ 1000000) (hc : n ≤ c) :
    Calls Tryd.prog 47 #[.slice A n c, .int .i64 least] w fun e w' => e = .returned (.slice A (tn xs least (n - least)) c) ∧ w = w' := by
  obtain ⟨b, o, rfl, hcell⟩ := hR.2 (by omega)
  have HC := Lib.hid hcell
  clear hcell
  go_enter Tryd.func47, Tryd.ntmps47
  go_wp2
  go_loop [5] (fun i => ∃ d : Nat, d ≤ n - least ∧ i = .int .i64 ((least + d : Nat) : Int) ∧ Hid (tn xs least (n - least) = tn xs least d)) (fun i => (intOf i).toNat)
  case atStart => exact ⟨n - least, by omega, by rw [show least + (n - least) = n from by omega], rfl⟩
  case round =>
    obtain ⟨d, hd, rfl, HT⟩ := hrel
    rcases Nat.eq_zero_or_pos d with h0 | h0
    · subst h0
      have HT2 := HT.out
      rw [show tn xs least 0 = least from rfl] at HT2
      have HT3 := Lib.hid HT2
      clear HT2
      rw [Nat.add_zero]
      go_wp2
      go_ret
      exact ⟨by rw [HT3.out]; rfl, rfl⟩
    · obtain ⟨e, rfl⟩ : ∃ e, d = e + 1 := ⟨d - 1, by omega⟩
      have z := HC.out (least + e) (by omega)
      obtain ⟨y, hy⟩ : ∃ y, rd xs (least + e) = y := ⟨_, rfl⟩
      rw [hy] at z
      have HT2 := HT.out
      have hu : tn xs least (e + 1) = if rd xs (least + e) = 0 then tn xs least e else least + e + 1 := rfl
      rw [hu, hy] at HT2
      obtain ⟨q, hq⟩ : ∃ q, q = least + e := ⟨_, rfl⟩
      rw [← hq] at z HT2
      rw [show least + (e + 1) = q + 1 from by omega]
      have hql : least ≤ q := by omega
      have hqn : q < n := by omega
      have s1 : (((q + 1 : Nat) : Int) - 1).toNat = q := by omega
      have s2 : (((q + 1 : Nat) : Int) - 1) = (q : Int) := by omega
      by_cases hy0 : y = 0
      · rw [if_pos hy0] at HT2
        have HT3 := Lib.hid HT2
        have Hq := Lib.hid hq
        subst hy0
        clear HT2 hy hu hq
        go_wp2
        go_round
        case rel => exact ⟨e, by omega, by rw [← Hq.out], HT3.out⟩
        case measure => simp [intOf]
      · rw [if_neg hy0] at HT2
        have HT3 := Lib.hid HT2
        have d0 : (y == 0) = false := by simpa using hy0
        clear HT2 hy hu hq
        go_wp2
        go_ret
        exact ⟨by rw [HT3.out]; rfl, rfl⟩
set_option maxHeartbeats 1000000 in
set_option maxRecDepth 100000 in
theorem refTrim_calls (A : Option Addr) (n c least : Nat) (xs : List Int) (w : World) (hR : Rd w .i64 A n xs) (h1 : 1 ≤ least) (hl : least ≤ n) (hn : n ≤ 1000000) (hc : n ≤ c) :
    Calls Tryd.prog 91 #[.slice A n c, .int .i64 least] w fun e w' => e = .returned (.slice A (tn xs least (n - least)) c) ∧ w = w' := by
  obtain ⟨b, o, rfl, hcell⟩ := hR.2 (by omega)
  have HC := Lib.hid hcell
  clear hcell
  go_enter Tryd.func91, Tryd.ntmps91
  go_wp2
  go_loop [5, 6] (fun m i => ∃ d : Nat, d ≤ n - least ∧ i = .int .i64 ((least + d : Nat) : Int) ∧ m = .int .i64 (tn xs least d : Nat)) (fun _ i => n - (intOf i).toNat)
  case atStart => exact ⟨0, by omega, rfl, rfl⟩
  case round =>
    obtain ⟨d, hd, rfl, rfl⟩ := hrel
    have ht := tn_rng xs least d
    obtain ⟨q, hq⟩ : ∃ q, q = least + d := ⟨_, rfl⟩
    by_cases hlt : d < n - least
    · have z := HC.out (least + d) (by omega)
      obtain ⟨y, hy⟩ : ∃ y, rd xs (least + d) = y := ⟨_, rfl⟩
      rw [hy] at z
      have hu : tn xs least (d + 1) = if rd xs (least + d) = 0 then tn xs least d else least + d + 1 := rfl
      rw [hy, ← hq] at hu
      rw [← hq] at z ⊢
      have hqn : q < n := by omega
      have Hq := Lib.hid hq
      clear hq hy
      by_cases hy0 : y = 0
      · rw [if_pos hy0] at hu
        have Hu := Lib.hid hu
        subst hy0
        clear hu
        go_wp2
        go_round
        case rel => exact ⟨d + 1, by omega, by rw [show least + (d + 1) = q + 1 from by have := Hq.out; omega]; go_num, by rw [Hu.out]⟩
        case measure => simp [intOf]; omega
      · rw [if_neg hy0] at hu
        have Hu := Lib.hid hu
        have d0 : (y == 0) = false := by simpa using hy0
        clear hu
        go_wp2
        go_round
        case rel => exact ⟨d + 1, by omega, by rw [show least + (d + 1) = q + 1 from by have := Hq.out; omega]; go_num, by rw [Hu.out]; go_num⟩
        case measure => simp [intOf]; omega
    · obtain rfl : d = n - least := by omega
      have e1 : least + (n - least) = n := by omega
      rw [e1]
      obtain ⟨m, hm⟩ : ∃ m, m = tn xs least (n - least) := ⟨_, rfl⟩
      rw [← hm] at ht ⊢
      have hmn : m ≤ n := by omega
      clear e1 hq ht
      have Hm := Lib.hid hm
      clear hm
      go_wp2
      go_ret
      exact ⟨by first | rfl | (rw [← Hm.out]; rfl) | (rw [Hm.out]; rfl), rfl⟩
end Go.Proofs.YtkjoncllnlmdgaaDoor
/-
  A slice of the laid table of the order.
-/
namespace Go.Proofs.YtkjoncllnlmdgaaDoor
open Go.RowKit

theorem ord_slice (W : World) (k : IntKind) (h : Int) (m : Nat) (e : h = m) (hm : m ≤ 19) : (Instr.sliceAt 65 (.pointer (some ⟨0, 0, none⟩)) none (some (.int k h)) none).run Tryd.prog W = .ok (.slice (some ⟨0, 0, none⟩) m 19) W := by
  have ha : Tryd.prog.arrayLen 65 = 19 := by simp [Program.arrayLen, Tryd.underlying65]
  have hu : Tryd.prog.underlying 65 = some (.array (Tryd.prog.arrayLen 65) (Tryd.prog.elem 65)) := by simp [Program.arrayLen, Program.elem, Tryd.underlying65]
  subst e
  rw [run_sliceAt_array_h W _ _ hu k (m : Int) (by omega) (by rw [ha]; omega), ha]
  simp [Program.elem, Tryd.underlying65, go_sem]
end Go.Proofs.YtkjoncllnlmdgaaDoor
/-
  The walks of the methods of *nodes: Len, Less, Swap, Push, Pop.
-/
namespace Go.Proofs.YtkjoncllnlmdgaaDoor
open Go.RowKit

/-- The nodes: n of them, four numbers each; and who waits. -/
structure NodesAt (w : World) (h : Nat) (va vw : Value) (n : Nat) (flat wait : List Int) : Prop where
  at' : w.heap[h]? = some (.cells #[va, vw] 144 (0, 0))
  all : w.ownsRow 0 146 4 va n (ints .i64 flat)
  wait : w.ownsRow 0 3 1 vw wait.length (ints .i64 wait)
theorem NodesAt.lt {w : World} {h n : Nat} {va vw : Value} {flat wait : List Int} (H : NodesAt w h va vw n flat wait) : h < w.heap.size := (Array.getElem?_eq_some_iff.1 H.at').1
theorem NodesAt.c0 {w : World} {h n : Nat} {va vw : Value} {flat wait : List Int} (H : NodesAt w h va vw n flat wait) : w.cell? ⟨h, 0, none⟩ = some va := by rw [cell_of_row w h 0 _ _ (0, 0) H.at']; rfl
theorem NodesAt.c1 {w : World} {h n : Nat} {va vw : Value} {flat wait : List Int} (H : NodesAt w h va vw n flat wait) : w.cell? ⟨h, 1, none⟩ = some vw := by rw [cell_of_row w h 1 _ _ (0, 0) H.at']; rfl
theorem NodesAt.frozen {w : World} {h n : Nat} {va vw : Value} {flat wait : List Int} (H : NodesAt w h va vw n flat wait) (j : Nat) : w.frozen? ⟨h, j, none⟩ = false := frozen_of_row w h j _ _ H.at'
theorem NodesAt.aw {w : World} {h n : Nat} {va vw : Value} {flat wait : List Int} (H : NodesAt w h va vw n flat wait) : Apart va.ownBlock vw.ownBlock := own_apart2 (by decide) H.all H.wait
theorem NodesAt.ah {w : World} {h n : Nat} {va vw : Value} {flat wait : List Int} (H : NodesAt w h va vw n flat wait) : Apart va.ownBlock (some h) := own_apart H.at' (by decide) H.all
theorem NodesAt.wh {w : World} {h n : Nat} {va vw : Value} {flat wait : List Int} (H : NodesAt w h va vw n flat wait) : Apart vw.ownBlock (some h) := own_apart H.at' (by decide) H.wait
theorem NodesAt.fr {w w' : World} {h n : Nat} {va vw : Value} {flat wait : List Int} {S : List (Option Nat)} (H : NodesAt w h va vw n flat wait) (hf : Fr w w' S) (hS : ∀ o ∈ S, Apart va.ownBlock o ∧ Apart vw.ownBlock o ∧ o ≠ some h) : NodesAt w' h va vw n flat wait :=
  ⟨(hf.block h H.lt (fun o ho => (hS o ho).2.2)).trans H.at', own_fr H.all hf (fun o ho => (hS o ho).1), own_fr H.wait hf (fun o ho => (hS o ho).2.1)⟩
theorem NodesAt.keep {w w' : World} {h n : Nat} {va vw : Value} {flat wait : List Int} (H : NodesAt w h va vw n flat wait) (hb : Below w.heap.size w w') : NodesAt w' h va vw n flat wait :=
  H.fr (Fr.ofBelow hb []) (fun o ho => by simp at ho)
/-- Is node x less than node y: by weight, then by order. -/
def ltF (flat : List Int) (x y : Int) : Bool := decide (rd flat (x.toNat * 4) < rd flat (y.toNat * 4)) || (rd flat (x.toNat * 4) == rd flat (y.toNat * 4) && decide (rd flat (x.toNat * 4 + 1) < rd flat (y.toNat * 4 + 1)))

set_option maxHeartbeats 1000000 in
theorem Len_calls (h n : Nat) (va vw : Value) (flat wait : List Int) (w : World) (H : NodesAt w h va vw n flat wait) :
    Calls Tryd.prog 98 #[.pointer (some ⟨h, 0, none⟩)] w fun e w' => e = .returned (.int .i64 wait.length) ∧ w = w' := by
  have c1 := H.c1
  obtain ⟨A, c, rfl⟩ := own_slice H.wait
  clear H
  go_enter Tryd.func98, Tryd.ntmps98
  go_wp2
  go_ret
  exact ⟨rfl, rfl⟩
set_option maxHeartbeats 1000000 in
theorem Less_calls (h n i k : Nat) (va vw : Value) (flat wait : List Int) (w : World) (H : NodesAt w h va vw n flat wait) (hi : i < wait.length) (hk : k < wait.length) (hx : ∀ j, j < wait.length → 0 ≤ rd wait j ∧ rd wait j < n) (hn : n ≤ 1000000) (hm : wait.length ≤ 1000000) :
    Calls Tryd.prog 129 #[.pointer (some ⟨h, 0, none⟩), .int .i64 i, .int .i64 k] w fun e w' => e = .returned (.bool (ltF flat (rd wait i) (rd wait k))) ∧ Below w.heap.size w w' := by
  have c0 := H.c0
  have c1 := H.c1
  have hfl : flat.length = n * 4 := by have := H.all.1; rwa [ints_length] at this
  obtain ⟨x, hx1⟩ : ∃ x : Nat, rd wait i = x := ⟨(rd wait i).toNat, by have := hx i hi; omega⟩
  obtain ⟨y, hy1⟩ : ∃ y : Nat, rd wait k = y := ⟨(rd wait k).toNat, by have := hx k hk; omega⟩
  have hxn : x < n := by have := hx i hi; omega
  have hyn : y < n := by have := hx k hk; omega
  obtain ⟨gw, cw, rfl, _, _, hcw, hcell, _⟩ := own_form H.wait (by omega)
  obtain ⟨ga, ca, rfl, _, _, hca, hacell, _⟩ := own_form H.all (by omega)
  have wi := hcell i _ (ints_get hi)
  have wk := hcell k _ (ints_get hk)
  rw [hx1] at wi
  rw [hy1] at wk
  have x0 := hacell (x * 4) _ (ints_get (by omega))
  have x1 := hacell (x * 4 + 1) _ (ints_get (by omega))
  have x2 := hacell (x * 4 + 2) _ (ints_get (by omega))
  have x3 := hacell (x * 4 + 3) _ (ints_get (by omega))
  have y0 := hacell (y * 4) _ (ints_get (by omega))
  have y1 := hacell (y * 4 + 1) _ (ints_get (by omega))
  have y2 := hacell (y * 4 + 2) _ (ints_get (by omega))
  have y3 := hacell (y * 4 + 3) _ (ints_get (by omega))
  have hres : ltF flat (rd wait i) (rd wait k) = (decide (rd flat (x * 4) < rd flat (y * 4)) || (rd flat (x * 4) == rd flat (y * 4) && decide (rd flat (x * 4 + 1) < rd flat (y * 4 + 1)))) := by
    rw [hx1, hy1]
    rfl
  rw [hres]
  clear hres
  obtain ⟨wx, e1⟩ : ∃ v, rd flat (x * 4) = v := ⟨_, rfl⟩
  obtain ⟨wy, e2⟩ : ∃ v, rd flat (y * 4) = v := ⟨_, rfl⟩
  obtain ⟨ox, e3⟩ : ∃ v, rd flat (x * 4 + 1) = v := ⟨_, rfl⟩
  obtain ⟨oy, e4⟩ : ∃ v, rd flat (y * 4 + 1) = v := ⟨_, rfl⟩
  rw [e1] at x0
  rw [e2] at y0
  rw [e3] at x1
  rw [e4] at y1
  rw [e1, e2, e3, e4]
  have L0 := Later.refl w
  have C0 := Later.cell c0
  have C1 := Later.cell c1
  have Wi := Later.cell wi
  have Wk := Later.cell wk
  have X0 := Later.cell x0
  have X1 := Later.cell x1
  have X2 := Later.cell x2
  have X3 := Later.cell x3
  have Y0 := Later.cell y0
  have Y1 := Later.cell y1
  have Y2 := Later.cell y2
  have Y3 := Later.cell y3
  clear H hcell hacell hx hx1 hy1 hfl e1 e2 e3 e4 c0 c1 wi wk x0 x1 x2 x3 y0 y1 y2 y3
  go_enter Tryd.func129, Tryd.ntmps129
  go_wp2
  go_region_held3 (fun W => Later w W ∧ W.cell? ⟨h, 0, none⟩ = some (.slice (some ⟨ga, 0, none⟩) n ca) ∧ W.cell? ⟨h, 1, none⟩ = some (.slice (some ⟨gw, 0, none⟩) wait.length cw) ∧ W.cell? ⟨gw, i, none⟩ = some (.int .i64 x) ∧ W.cell? ⟨gw, k, none⟩ = some (.int .i64 y) ∧
    W.cell? ⟨ga, x * 4, none⟩ = some (.int .i64 wx) ∧ W.cell? ⟨ga, x * 4 + 1, none⟩ = some (.int .i64 ox) ∧ W.cell? ⟨ga, x * 4 + 2, none⟩ = some (.int .i64 (rd flat (x * 4 + 2))) ∧ W.cell? ⟨ga, x * 4 + 3, none⟩ = some (.int .i64 (rd flat (x * 4 + 3))) ∧
    W.cell? ⟨ga, y * 4, none⟩ = some (.int .i64 wy) ∧ W.cell? ⟨ga, y * 4 + 1, none⟩ = some (.int .i64 oy) ∧ W.cell? ⟨ga, y * 4 + 2, none⟩ = some (.int .i64 (rd flat (y * 4 + 2))) ∧ W.cell? ⟨ga, y * 4 + 3, none⟩ = some (.int .i64 (rd flat (y * 4 + 3))))
    ((refine (fun L => ⟨L, C0 _ L, C1 _ L, Wi _ L, Wk _ L, X0 _ L, X1 _ L, X2 _ L, X3 _ L, Y0 _ L, Y1 _ L, Y2 _ L, Y3 _ L⟩) ?_; repeat (first | exact L0 | refine Later.drew ?_ | refine Later.new _ ?_ | refine Later.made _ _ (by first | exact Nat.le_refl _ | (simp; done) | (simp; omega)) ?_))) (fail)
  all_goals
    rename_i hh
    clear hh C0 C1 Wi Wk X0 X1 X2 X3 Y0 Y1 Y2 Y3 L0
    go_wp2
    all_goals
      go_ret
      refine ⟨?_, ((Below.refl _ _).alloc (Nat.le_refl _) _).alloc (by simp) _ |>.drew⟩
      first
      | rfl
      | (have g : wx = wy := by assumption
         subst g
         simp)
      | (have g : ¬ wx = wy := by assumption
         simp [g])
end Go.Proofs.YtkjoncllnlmdgaaDoor
/-
  The walks of the methods of *nodes that write: Swap, Push, Pop.
-/
namespace Go.Proofs.YtkjoncllnlmdgaaDoor
open Go.RowKit

theorem NodesAt.put {w : World} {h n g c : Nat} {va : Value} {flat wait : List Int} (H : NodesAt w h va (.slice (some ⟨g, 0, none⟩) wait.length c) n flat wait) (j : Nat) (v : Int) :
    NodesAt (w.setCell ⟨g, j, none⟩ (.int .i64 v)) h va (.slice (some ⟨g, 0, none⟩) wait.length c) n flat (wait.set j v) := by
  have hne : h ≠ g := fun e => H.wh g rfl (by rw [e])
  refine ⟨(heap_setCell_other w ⟨g, j, none⟩ h _ hne).trans H.at', own_fr H.all ((Fr.refl w [some g]).set ⟨g, j, none⟩ _ (.inl (by simp))) (fun o ho => ?_), ?_⟩
  · simp at ho
    subst ho
    exact H.aw
  · rw [List.length_set, ints_set]
    exact own_store H.wait j _
theorem kept_new_f {w : World} {a : Addr} (h : w.frozen? a = false) (hlt : a.block < w.heap.size) (o : Obj) : (w.alloc o).frozen? a = false := (World.frozen?_of_block (Below.heap_alloc _ _ _ hlt)).trans h
set_option maxHeartbeats 1000000 in
theorem Swap_calls (h n i k : Nat) (va vw : Value) (flat wait : List Int) (w : World) (H : NodesAt w h va vw n flat wait) (hi : i < wait.length) (hk : k < wait.length) :
    Calls Tryd.prog 132 #[.pointer (some ⟨h, 0, none⟩), .int .i64 i, .int .i64 k] w fun e w' => e = .returned (.tuple #[]) ∧ NodesAt w' h va vw n flat (swp wait i k) ∧ Fr w w' [vw.ownBlock] ∧ w'.heap.size = w.heap.size := by
  have c1 := H.c1
  obtain ⟨gw, cw, rfl, _, _, hcw, hcell, hfz⟩ := own_form H.wait (by omega)
  have wi := hcell i _ (ints_get hi)
  have wk := hcell k _ (ints_get hk)
  have fi := hfz i
  have fk := hfz k
  have hne := H.wh
  have hgh : ¬ gw = h := fun e => hne gw rfl (by rw [e])
  have hgh2 : ¬ h = gw := fun e => hgh e.symm
  have hset : ∀ v, ∃ u, (w.setCell ⟨gw, i, none⟩ v).cell? ⟨gw, k, none⟩ = some u := by
    intro v
    have ho := own_store H.wait i v
    have := ho.cellAt k (by omega)
    exact ⟨_, this.trans (List.getElem?_eq_getElem (by rw [List.length_set, ints_length]; exact hk))⟩
  obtain ⟨u, hu⟩ := hset (.int .i64 (rd wait k))
  have HH := Lib.hid H
  clear H hcell hfz hne hset
  go_enter Tryd.func132, Tryd.ntmps132
  go_region
  go_wp2
  go_end0
  have h1 := (HH.out.put i (rd wait k))
  have h2 := NodesAt.put (wait := wait.set i (rd wait k)) (by rw [List.length_set]; exact h1) k (rd wait i)
  refine ⟨rfl, ?_, ((Fr.refl w _).set _ _ (.inl (by simp [Value.ownBlock]))).set _ _ (.inl (by simp [Value.ownBlock])) |>.drew, by simp⟩
  rw [List.length_set] at h2
  exact h2.keep (Below.refl _ _).drew
set_option maxHeartbeats 1000000 in
theorem NPop_calls (h n : Nat) (va vw : Value) (flat wait : List Int) (w : World) (H : NodesAt w h va vw n flat wait) (hm : 0 < wait.length) :
    Calls Tryd.prog 130 #[.pointer (some ⟨h, 0, none⟩)] w fun e w' => e = .returned (.iface 3 (.int .i64 (rd wait (wait.length - 1)))) ∧ ∃ vw', NodesAt w' h va vw' n flat (wait.take (wait.length - 1)) ∧ vw'.ownBlock = vw.ownBlock ∧ Fr w w' [some h] ∧ w'.heap.size = w.heap.size := by
  have c1 := H.c1
  have f1 := H.frozen 1
  obtain ⟨gw, cw, rfl, _, _, hcw, hcell, hfz⟩ := own_form H.wait (by omega)
  have wl := hcell (wait.length - 1) _ (ints_get (by omega))
  obtain ⟨m, hm2⟩ : ∃ m, wait.length = m + 1 := ⟨wait.length - 1, by omega⟩
  rw [hm2] at c1 wl
  rw [hm2, Nat.add_sub_cancel]
  rw [Nat.add_sub_cancel] at wl
  have hbig : m + 1 ≤ maxLen := by
    rcases H.wait.2 with ⟨h1, _⟩ | ⟨g, cap, cur, h1, _, _, h3, h4, _⟩
    · cases h1
    · rw [hm2] at h3; omega
  unfold maxLen at hbig
  have Hm2 := Lib.hid hm2
  have HH := Lib.hid H
  clear H hcell hfz hm2
  have hcm : m ≤ cw := by have := Hm2.out; omega
  go_enter Tryd.func130, Tryd.ntmps130
  go_wp2
  go_ret
  refine ⟨rfl, .slice (some ⟨gw, 0, none⟩) m cw, ⟨?_, ?_, ?_⟩, rfl, (Fr.refl w _).set _ _ (.inl (by simp)), by simp⟩
  · exact heap_setCell_same w h 1 _ _ _ HH.out.at'
  · refine own_fr HH.out.all ((Fr.refl w [some h]).set ⟨h, 1, none⟩ _ (.inl (by simp))) (fun o ho => ?_)
    simp at ho
    subst ho
    exact HH.out.ah
  · have h1 := own_front HH.out.wait m (by have := Hm2.out; omega)
    rw [show (wait.take m).length = m from by rw [List.length_take]; have := Hm2.out; omega]
    rw [show (ints .i64 wait).take m = ints .i64 (wait.take m) from by simp [ints, List.map_take]] at h1
    refine own_fr h1 ((Fr.refl w [some h]).set ⟨h, 1, none⟩ _ (.inl (by simp))) (fun o ho => ?_)
    simp at ho
    subst ho
    exact HH.out.wh
set_option maxHeartbeats 1000000 in
theorem NPush_calls (h n : Nat) (va vw : Value) (flat wait : List Int) (x : Int) (w : World) (H : NodesAt w h va vw n flat wait) (hm : wait.length ≤ 1000000) :
    Calls Tryd.prog 131 #[.pointer (some ⟨h, 0, none⟩), .iface 3 (.int .i64 x)] w fun e w' => e = .returned (.tuple #[]) ∧ ∃ vw', NodesAt w' h va vw' n flat (wait ++ [x]) ∧ (vw'.ownBlock = vw.ownBlock ∨ ∀ k, vw'.ownBlock = some k → w.heap.size ≤ k) ∧ Fr w w' [some h, vw.ownBlock] := by
  have c1 := H.c1
  have f1 := H.frozen 1
  have HH := Lib.hid H
  obtain ⟨A, c, rfl⟩ := own_slice H.wait
  have ta : ∀ W : World, Sem.run Tryd.prog (Instr.typeAssert (.iface 3 (.int .i64 x)) 20 3 false) W = .ok (.int .i64 x) W := fun W => by kernel_rfl
  obtain ⟨i0, hi0, hz0, hz1, hz2⟩ := info_parts elIntN.info
  have hh1 : h < w.heap.size := H.lt
  have hne := H.wh
  have Hne := Lib.hid hne
  clear H hne
  go_enter Tryd.func131, Tryd.ntmps131
  go_region_law
    ((refine step_append_lies _ (by rfl) _ _ _ (by rfl) 0 3 i0 (.int .i64 0) 1 8 elIntN.und hi0 hz0 hz1 hz2 rfl (by omega) (.slice A wait.length c) wait.length _ (by rfl) (HH.out.wait.alloc _) ⟨w.heap.size, 0, none⟩ 1 1 [.int .i64 x] (by rfl) rfl (news_at _ _ _) (by simp [Value.oneCell']) (by omega) (by unfold maxLen; omega) (by omega) (Nat.zero_le _) (w.heap.size + 1) (by simp) ?_; intro g cap w1 hown1 hgrow hat hlt; have q1 := hgrow.cell (kept_new c1 _) (fun e => Hne.out h e.symm rfl); have q2 := (hgrow.frozen_far ⟨h, 1, none⟩ (by simp; omega) (fun e => Hne.out h e.symm rfl)).trans (kept_new_f f1 hh1 _)))
  all_goals
    go_end0
    have hW1 : w1.heap[h]? = some (.cells #[va, .slice A wait.length c] 144 (0, 0)) := (hgrow.block h (by simp; omega) (fun e => Hne.out h e.symm rfl)).trans ((Below.heap_alloc _ _ _ hh1).trans HH.out.at')
    have FA : Fr w w1 [(Value.slice A wait.length c).ownBlock] := ((Fr.refl w _).alloc _ |>.drew).trans (Fr.ofGrown hgrow) (fun o ho => .inl ho)
    have FB : Fr w (w1.setCell ⟨h, 1, none⟩ (Value.slice (some ⟨g, 0, none⟩) (wait.length + 1) cap)) [some h, (Value.slice A wait.length c).ownBlock] := (FA.mono (fun o ho => by simp at ho ⊢; exact .inr ho)).set _ _ (.inl (by simp))
    refine ⟨rfl, .slice (some ⟨g, 0, none⟩) (wait.length + 1) cap, ⟨heap_setCell_same w1 h 1 _ _ _ hW1, ?_, ?_⟩, ?_, FB⟩
    · refine own_fr HH.out.all FB (fun o ho => ?_)
      simp only [List.mem_cons, List.not_mem_nil, or_false] at ho
      rcases ho with rfl | rfl
      · exact HH.out.ah
      · exact HH.out.aw
    · have h9 := own_fr hown1 ((Fr.refl w1 [some h]).set ⟨h, 1, none⟩ (Value.slice (some ⟨g, 0, none⟩) (wait.length + 1) cap) (.inl (by simp))) (fun o ho => by
        simp only [List.mem_cons, List.not_mem_nil, or_false] at ho
        subst ho
        exact own_apart hW1 (by decide) hown1)
      rw [List.length_append, ints_append]
      exact h9
    · rcases hat with h8 | h8
      · exact .inl h8.symm
      · refine .inr (fun k hk => ?_)
        simp [Value.ownBlock] at hk
        omega
end Go.Proofs.YtkjoncllnlmdgaaDoor
