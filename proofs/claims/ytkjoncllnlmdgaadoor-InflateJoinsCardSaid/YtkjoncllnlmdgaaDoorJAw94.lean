/-
  Texts joined into one file: PackP, HuffP, HuffC, HuffD, HuffQ.
-/
import Derived.Test.YtkjoncllnlmdgaaDoorJAw93
import Derived.Test.YtkjoncllnlmdgaaDoorJAw92
import Derived.Test.YtkjoncllnlmdgaaDoorJAw91
import Derived.IntWalk
import Derived.OneCell
import Derived.BigQuiet
/-
  Bits as bytes: the lowest bit first (no program).
-/
namespace Go.Proofs.YtkjoncllnlmdgaaDoor
open Go.RowKit

/-- The number that bits tell, the lowest first. -/
def pk (f : Nat → Nat) : Nat → Nat
  | 0 => 0
  | k + 1 => pk f k + f k * 2 ^ k
theorem pk_lt {f : Nat → Nat} (h : ∀ i, f i ≤ 1) (k : Nat) : pk f k < 2 ^ k := by
  induction k with
  | zero => simp [pk]
  | succ k ih =>
    have := Nat.mul_le_mul_right (2 ^ k) (h k)
    simp only [pk, Nat.pow_succ]
    omega
theorem pk_congr {f g : Nat → Nat} {k : Nat} (h : ∀ i, i < k → f i = g i) : pk f k = pk g k := by
  induction k with
  | zero => rfl
  | succ k ih =>
    simp only [pk]
    rw [ih (fun i hi => h i (by omega)), h k (by omega)]
theorem pk_bit {f : Nat → Nat} (h : ∀ i, f i ≤ 1) : ∀ (k i : Nat), i < k → pk f k / 2 ^ i % 2 = f i := by
  intro k
  induction k with
  | zero => intro i hi; omega
  | succ k ih =>
    intro i hi
    simp only [pk]
    rcases Nat.lt_or_ge i k with g | g
    · have e : f k * 2 ^ k = (f k * 2 ^ (k - i - 1) * 2) * 2 ^ i := by
        rw [Nat.mul_assoc, Nat.mul_assoc, ← Nat.pow_succ', ← Nat.pow_add]
        congr 2
        omega
      rw [e, Nat.add_mul_div_right _ _ (Nat.pow_pos (by omega)), Nat.add_mul_mod_self_right]
      exact ih i g
    · obtain rfl : i = k := by omega
      rw [Nat.add_mul_div_right _ _ (Nat.pow_pos (by omega)), Nat.div_eq_of_lt (pk_lt h i), Nat.zero_add]
      have := h i
      omega
theorem numAt_pk (bs : List Int) (p k : Nat) : numAt bs p k = pk (fun i => bitAt bs (p + i)) k := by
  induction k with
  | zero => rfl
  | succ k ih => simp only [numAt, pk, ih]
def Bit01 (L : List Int) : Prop := ∀ x ∈ L, x = 0 ∨ x = 1
theorem Bit01.rd {L : List Int} (h : Bit01 L) (i : Nat) : Go.Proofs.YtkjoncllnlmdgaaDoor.rd L i = 0 ∨ Go.Proofs.YtkjoncllnlmdgaaDoor.rd L i = 1 := by
  rcases Nat.lt_or_ge i L.length with g | g
  · rw [rd_getElem g]; exact h _ (List.getElem_mem _)
  · left
    unfold Go.Proofs.YtkjoncllnlmdgaaDoor.rd
    rw [List.getD_eq_getElem?_getD, List.getElem?_eq_none g]
    rfl
theorem Bit01.app {a b : List Int} (ha : Bit01 a) (hb : Bit01 b) : Bit01 (a ++ b) := fun x hx => (List.mem_append.1 hx).elim (ha x) (hb x)
theorem rd_out {L : List Int} {i : Nat} (h : L.length ≤ i) : rd L i = 0 := by
  unfold rd
  rw [List.getD_eq_getElem?_getD, List.getElem?_eq_none h]
  rfl
def packAt (L : List Int) (j : Nat) : Nat := pk (fun i => (rd L (8 * j + i)).toNat) 8
theorem packAt_lt {L : List Int} (h : Bit01 L) (j : Nat) : packAt L j < 256 := pk_lt (fun i => by rcases h.rd (8 * j + i) with e | e <;> rw [e] <;> decide) 8
/-- The bytes of bits; the last ones filled up with 0. -/
def packB (L : List Int) : List Int := (List.range ((L.length + 7) / 8)).map fun j => (packAt L j : Int)
theorem packB_length (L : List Int) : (packB L).length = (L.length + 7) / 8 := by simp [packB]
theorem rd_packB {L : List Int} {j : Nat} (h : j < (L.length + 7) / 8) : rd (packB L) j = (packAt L j : Int) := by
  rw [rd_getElem (by rw [packB_length]; exact h)]
  simp [packB]
theorem bitAt_packB {L : List Int} (h : Bit01 L) {i : Nat} (hi : i < 8 * ((L.length + 7) / 8)) : bitAt (packB L) i = (rd L i).toNat := by
  unfold bitAt
  rw [rd_packB (by omega), Int.toNat_natCast]
  unfold packAt
  rw [pk_bit (fun i' => by rcases h.rd (8 * (i / 8) + i') with e | e <;> rw [e] <;> decide) 8 (i % 8) (by omega), show 8 * (i / 8) + i % 8 = i from by omega]
theorem packB_byte {L : List Int} (h : Bit01 L) (j : Nat) (hj : j < (L.length + 7) / 8) : 0 ≤ rd (packB L) j ∧ rd (packB L) j ≤ 255 := by
  have := packAt_lt h j
  rw [rd_packB hj]
  omega
theorem numAt_byte {L : List Int} (h : Bit01 L) {j : Nat} (hj : j < (L.length + 7) / 8) : numAt (packB L) (8 * j) 8 = packAt L j := by
  rw [numAt_pk]
  exact pk_congr (fun i hi => bitAt_packB h (by omega))
/-- A bit more, where a byte begins. -/
theorem packB_new {L : List Int} {x : Int} (hx : x = 0 ∨ x = 1) (h8 : L.length % 8 = 0) : packB (L ++ [x]) = packB L ++ [x] := by
  apply ext_rd (by rw [List.length_append, packB_length, packB_length, List.length_append]; simp; omega)
  intro j hj
  rw [packB_length, List.length_append, List.length_cons, List.length_nil] at hj
  rw [rd_packB (by rw [List.length_append]; simpa using hj)]
  rcases Nat.lt_or_ge j (L.length / 8) with g | g
  · rw [rd_appL (by rw [packB_length]; omega), rd_packB (by omega)]
    unfold packAt
    rw [pk_congr (fun i hi => by rw [rd_appL (by omega)])]
  · have e : j = (packB L).length + 0 := by rw [packB_length]; omega
    rw [e, rd_appR, ← e]
    have e8 : 8 * j = L.length := by rw [e, packB_length]; omega
    unfold packAt
    have key : ∀ i, i < 8 → (rd (L ++ [x]) (8 * j + i)).toNat = if i = 0 then x.toNat else 0 := by
      intro i hi
      rw [e8, rd_appR]
      by_cases h0 : i = 0
      · subst h0; rfl
      · rw [if_neg h0, rd_out (by simp; omega)]; rfl
    rw [pk_congr key]
    rcases hx with rfl | rfl <;> rfl
/-- A bit more, inside a byte. -/
theorem packB_in {L : List Int} {x : Int} (_hL : Bit01 L) (hx : x = 0 ∨ x = 1) (h8 : L.length % 8 ≠ 0) : packB (L ++ [x]) = (packB L).set (L.length / 8) ((packAt L (L.length / 8) : Int) + x * 2 ^ (L.length % 8)) ∧ packAt L (L.length / 8) < 2 ^ (L.length % 8) := by
  have hlow : packAt L (L.length / 8) = pk (fun i => (rd L (8 * (L.length / 8) + i)).toNat) (L.length % 8) := by
    unfold packAt
    have key : ∀ d k, 8 * (L.length / 8) + k ≥ L.length → pk (fun i => (rd L (8 * (L.length / 8) + i)).toNat) (k + d) = pk (fun i => (rd L (8 * (L.length / 8) + i)).toNat) k := by
      intro d k hk
      induction d with
      | zero => rfl
      | succ d ih =>
        show pk _ (k + d) + (rd L (8 * (L.length / 8) + (k + d))).toNat * 2 ^ (k + d) = _
        rw [ih, rd_out (by omega)]
        simp
    have := key (8 - L.length % 8) (L.length % 8) (by omega)
    rwa [show L.length % 8 + (8 - L.length % 8) = 8 from by omega] at this
  refine ⟨?_, by rw [hlow]; exact pk_lt (fun i => by rcases _hL.rd (8 * (L.length / 8) + i) with e | e <;> rw [e] <;> decide) _⟩
  apply ext_rd (by rw [List.length_set, packB_length, packB_length, List.length_append, List.length_cons, List.length_nil]; omega)
  intro j hj
  rw [packB_length, List.length_append, List.length_cons, List.length_nil] at hj
  rw [rd_packB (by rw [List.length_append]; simpa using hj), rd_set (by rw [packB_length]; omega)]
  by_cases g : L.length / 8 = j
  · rw [if_pos g, hlow, g]
    have key : ∀ d, L.length % 8 + 1 + d ≤ 8 → pk (fun i => (rd (L ++ [x]) (8 * j + i)).toNat) (L.length % 8 + 1 + d) = pk (fun i => (rd L (8 * j + i)).toNat) (L.length % 8) + x.toNat * 2 ^ (L.length % 8) := by
      intro d hd
      induction d with
      | zero =>
        show pk _ (L.length % 8) + (rd (L ++ [x]) (8 * j + L.length % 8)).toNat * 2 ^ (L.length % 8) = _
        rw [pk_congr (g := fun i => (rd L (8 * j + i)).toNat) (fun i hi => by rw [rd_appL (by omega)])]
        have e : 8 * j + L.length % 8 = L.length + 0 := by omega
        rw [e, rd_appR]
        rfl
      | succ d ih =>
        show pk _ (L.length % 8 + 1 + d) + (rd (L ++ [x]) (8 * j + (L.length % 8 + 1 + d))).toNat * 2 ^ (L.length % 8 + 1 + d) = _
        rw [ih (by omega), rd_out (by rw [List.length_append, List.length_cons, List.length_nil]; omega)]
        simp
    have h9 := key (7 - L.length % 8) (by omega)
    rw [show L.length % 8 + 1 + (7 - L.length % 8) = 8 from by omega] at h9
    unfold packAt
    rw [h9, Int.natCast_add, Int.natCast_mul, Int.natCast_pow]
    rcases hx with rfl | rfl <;> rfl
  · rw [if_neg g, rd_packB (by omega)]
    unfold packAt
    rw [pk_congr (fun i hi => by rw [rd_appL (by omega)])]
theorem lowOf_bit (x n : Nat) : Bit01 (lowOf x n) := fun y hy => by
  obtain ⟨i, _, rfl⟩ := List.mem_map.1 hy
  have := Nat.mod_lt (x / 2 ^ i) (show 0 < 2 by omega)
  omega
theorem rd_lowOf {x n i : Nat} (h : i < n) : rd (lowOf x n) i = ((x / 2 ^ i % 2 : Nat) : Int) := by
  rw [rd_getElem (by rw [lowOf_length]; exact h)]
  simp [lowOf]
end Go.Proofs.YtkjoncllnlmdgaaDoor
/-
  Plain facts about canonical codes (no program): first codes, codes, what is left.
-/
namespace Go.Proofs.YtkjoncllnlmdgaaDoor

/-- The first code of a length. -/
def firstAt (c : List Int) : Nat → Int
  | 0 => 0
  | k + 1 => 2 * (firstAt c k + rd c k)
theorem firstAt_range (c : List Int) (n : Int) (hc : ∀ j, j < 16 → 0 ≤ rd c j ∧ rd c j ≤ n) (k : Nat) (hk : k ≤ 16) : 0 ≤ firstAt c k ∧ firstAt c k + 2 * n ≤ 2 * n * 2 ^ k := by
  induction k with
  | zero => simp [firstAt]
  | succ k ih =>
    have h1 := ih (by omega)
    have h2 := hc k (by omega)
    have e : 2 * n * 2 ^ (k + 1) = 2 * (2 * n * 2 ^ k) := by rw [Int.pow_succ, ← Int.mul_assoc, Int.mul_comm _ 2]
    rw [e]
    simp only [firstAt]
    omega
theorem firstAt_le (c : List Int) (n : Int) (hn : 0 ≤ n) (hc : ∀ j, j < 16 → 0 ≤ rd c j ∧ rd c j ≤ n) (k : Nat) (hk : k ≤ 16) : 0 ≤ firstAt c k ∧ firstAt c k ≤ 131072 * n := by
  have h1 := firstAt_range c n hc k hk
  have h2 : 2 * n * 2 ^ k ≤ 2 * n * 2 ^ 16 := by
    refine Int.mul_le_mul_of_nonneg_left ?_ (by omega)
    have : (2 : Nat) ^ k ≤ 2 ^ 16 := Nat.pow_le_pow_right (by omega) hk
    exact_mod_cast this
  have h3 : 2 * n * 2 ^ 16 = 131072 * n := by
    rw [show ((2 : Int) ^ 16) = 65536 from by decide +kernel]
    omega
  omega
def firstsOf (c : List Int) : List Int := (List.range 16).map (firstAt c)
theorem firstsOf_length (c : List Int) : (firstsOf c).length = 16 := by simp [firstsOf]
theorem rd_firstsOf (c : List Int) (j : Nat) (h : j < 16) : rd (firstsOf c) j = firstAt c j := by
  rw [rd_getElem (by rw [firstsOf_length]; exact h)]
  simp [firstsOf]
/-- How many of the first s have that length. -/
def before (xs : List Int) (k : Int) (s : Nat) : Nat := ((xs.take s).filter fun x => x == k).length
theorem before_zero (xs : List Int) (k : Int) : before xs k 0 = 0 := by simp [before]
theorem before_hit (xs : List Int) (k : Int) (s : Nat) (hs : s < xs.length) (h : rd xs s = k) : before xs k (s + 1) = before xs k s + 1 := by
  unfold before
  rw [List.take_succ_eq_append_getElem hs, ← rd_getElem hs, List.filter_append, h]
  simp
theorem before_miss (xs : List Int) (k : Int) (s : Nat) (hs : s < xs.length) (h : rd xs s ≠ k) : before xs k (s + 1) = before xs k s := by
  unfold before
  rw [List.take_succ_eq_append_getElem hs, ← rd_getElem hs, List.filter_append]
  have : (rd xs s == k) = false := by simpa using h
  simp [this]
theorem before_le (xs : List Int) (k : Int) (s : Nat) : before xs k s ≤ s := by
  have h1 := List.length_filter_le (fun x => x == k) (xs.take s)
  have h2 := List.length_take_le s xs
  unfold before
  omega
theorem rd_cntOf_pos (xs : List Int) (k : Nat) (h : 0 < k) (h2 : k < 16) : rd (cntOf xs) k = (before xs k xs.length : Nat) := by
  unfold cntOf
  rw [rd_set (by rw [cntTo_length]; omega), if_neg (by omega), rd_cntTo _ _ _ h2]
  rfl
theorem rd_cntOf_zero (xs : List Int) : rd (cntOf xs) 0 = 0 := by
  unfold cntOf
  rw [rd_set (by rw [cntTo_length]; omega), if_pos rfl]
/-- The next code of length k behind the first s symbols. -/
def nextCode (xs : List Int) (k s : Nat) : Int := firstAt (cntOf xs) k + (before xs k s : Nat)
theorem nextCode_over (xs : List Int) (k : Nat) (h : 0 < k) (h2 : k < 16) : nextCode xs (k + 1) 0 = 2 * nextCode xs k xs.length := by
  unfold nextCode
  rw [before_zero]
  simp only [firstAt]
  rw [rd_cntOf_pos xs k h h2]
  omega
theorem nextCode_one (xs : List Int) : nextCode xs 1 0 = 0 := by
  unfold nextCode
  rw [before_zero]
  simp only [firstAt]
  rw [rd_cntOf_zero]
  rfl
theorem nextCode_range (xs : List Int) (k s : Nat) (hk : k ≤ 16) : 0 ≤ nextCode xs k s ∧ nextCode xs k s ≤ 131072 * xs.length + s := by
  have h1 := firstAt_le (cntOf xs) xs.length (by omega) (rd_cntOf xs) k hk
  have h2 := before_le xs k s
  unfold nextCode
  omega
/-- The code of a symbol; 0, if it has none. -/
def codeAt (xs : List Int) (s : Nat) : Int := if 0 < rd xs s ∧ rd xs s ≤ 15 then nextCode xs (rd xs s).toNat s else 0
def codesOf (xs : List Int) : List Int := (List.range xs.length).map (codeAt xs)
theorem codesOf_length (xs : List Int) : (codesOf xs).length = xs.length := by simp [codesOf]
theorem rd_codesOf (xs : List Int) (j : Nat) (h : j < xs.length) : rd (codesOf xs) j = codeAt xs j := by
  rw [rd_getElem (by rw [codesOf_length]; exact h)]
  simp [codesOf]
end Go.Proofs.YtkjoncllnlmdgaaDoor
/-
  The walks of firsts and Codes.
-/
namespace Go.Proofs.YtkjoncllnlmdgaaDoor
open Go.RowKit

def firstsTo (c : List Int) (k : Nat) : List Int := (List.range 16).map fun j => if j < k then firstAt c j else 0
theorem firstsTo_length (c : List Int) (k : Nat) : (firstsTo c k).length = 16 := by simp [firstsTo]
theorem rd_firstsTo (c : List Int) (k j : Nat) (h : j < 16) : rd (firstsTo c k) j = if j < k then firstAt c j else 0 := by
  rw [rd_getElem (by rw [firstsTo_length]; exact h)]
  simp [firstsTo]
theorem firstsTo_next (c : List Int) (k : Nat) (h : k < 16) : firstsTo c (k + 1) = (firstsTo c k).set k (firstAt c k) := by
  apply ext_rd (by simp [firstsTo_length])
  intro j hj
  rw [firstsTo_length] at hj
  rw [rd_set (by rw [firstsTo_length]; exact h), rd_firstsTo _ _ _ hj, rd_firstsTo _ _ _ hj]
  by_cases e : k = j
  · subst e; rw [if_pos rfl, if_pos (by omega)]
  · rw [if_neg e]
    by_cases g : j < k
    · rw [if_pos g, if_pos (by omega)]
    · rw [if_neg g, if_neg (by omega)]
theorem firstsTo_all (c : List Int) : firstsTo c 16 = firstsOf c := by
  apply ext_rd (by rw [firstsTo_length, firstsOf_length])
  intro j hj
  rw [firstsTo_length] at hj
  rw [rd_firstsTo _ _ _ hj, rd_firstsOf _ _ hj, if_pos hj]
theorem firstsTo_one (c : List Int) : firstsTo c 1 = List.replicate 16 0 := by
  apply ext_rd (by rw [firstsTo_length, List.length_replicate])
  intro j hj
  rw [firstsTo_length] at hj
  rw [rd_firstsTo _ _ _ hj]
  have : rd (List.replicate 16 (0 : Int)) j = 0 := by
    rw [rd_getElem (by rw [List.length_replicate]; exact hj), List.getElem_replicate]
  rw [this]
  split
  · have : j = 0 := by omega
    subst this; rfl
  · rfl

set_option maxHeartbeats 1000000 in
set_option maxRecDepth 200000 in
theorem firsts_calls (c : List Int) (n : Nat) (w : World) (hl : c.length = 16) (hn : n ≤ 1000000) (hc : ∀ j, j < 16 → 0 ≤ rd c j ∧ rd c j ≤ n) :
    Calls Tryd.prog 74 #[.agg (ints .i64 c).toArray] w fun e w' => e = .returned (.agg (ints .u64 (firstsOf c)).toArray) ∧ Below w.heap.size w w' := by
  have Hl := Lib.hid hl
  have Hc := Lib.hid hc
  clear hc
  go_enter Tryd.func74, Tryd.ntmps74
  go_wp2
  go_loopw [4, 5] (fun x i wr => ∃ k : Nat, k ≤ 15 ∧ i = .int .i64 (1 + k) ∧ x = .int .u64 (firstAt c k) ∧ Blk wr w.heap.size 107 .i64 c ∧ Blk wr (w.heap.size + 1) 112 .u64 (List.replicate 16 0) ∧ Blk wr (w.heap.size + 1 + 1) 112 .u64 (firstsTo c (1 + k)) ∧ Below w.heap.size w wr) (fun _ i _ => 16 - (intOf i).toNat)
  case atStart =>
    refine ⟨0, by omega, rfl, rfl, ?_, ?_, ?_, below_new (below_new (below_new (Below.refl _ _) (Nat.le_refl _) _) (Nat.le_refl _) _) (Nat.le_refl _) _⟩
    · exact Blk.alloc (Blk.alloc (heap_alloc_new w _) _) _
    · have h1 : Blk ((w.alloc (Obj.cells (ints .i64 c).toArray 107)).alloc (Obj.cells #[Value.int IntKind.u64 0, Value.int IntKind.u64 0, Value.int IntKind.u64 0, Value.int IntKind.u64 0, Value.int IntKind.u64 0, Value.int IntKind.u64 0, Value.int IntKind.u64 0, Value.int IntKind.u64 0, Value.int IntKind.u64 0, Value.int IntKind.u64 0, Value.int IntKind.u64 0, Value.int IntKind.u64 0, Value.int IntKind.u64 0, Value.int IntKind.u64 0, Value.int IntKind.u64 0, Value.int IntKind.u64 0] 112)) (w.heap.size + 1) 112 .u64 (List.replicate 16 0) := heap_alloc2_new _ _ _
      exact h1.alloc _
    · rw [firstsTo_one]
      have h1 : Blk (((w.alloc (Obj.cells (ints .i64 c).toArray 107)).alloc (Obj.cells #[Value.int IntKind.u64 0, Value.int IntKind.u64 0, Value.int IntKind.u64 0, Value.int IntKind.u64 0, Value.int IntKind.u64 0, Value.int IntKind.u64 0, Value.int IntKind.u64 0, Value.int IntKind.u64 0, Value.int IntKind.u64 0, Value.int IntKind.u64 0, Value.int IntKind.u64 0, Value.int IntKind.u64 0, Value.int IntKind.u64 0, Value.int IntKind.u64 0, Value.int IntKind.u64 0, Value.int IntKind.u64 0] 112)).alloc (Obj.cells #[Value.int IntKind.u64 0, Value.int IntKind.u64 0, Value.int IntKind.u64 0, Value.int IntKind.u64 0, Value.int IntKind.u64 0, Value.int IntKind.u64 0, Value.int IntKind.u64 0, Value.int IntKind.u64 0, Value.int IntKind.u64 0, Value.int IntKind.u64 0, Value.int IntKind.u64 0, Value.int IntKind.u64 0, Value.int IntKind.u64 0, Value.int IntKind.u64 0, Value.int IntKind.u64 0, Value.int IntKind.u64 0] 112)) ((w.alloc (Obj.cells (ints .i64 c).toArray 107)).heap.size + 1) 112 .u64 (List.replicate 16 0) := heap_alloc2_new _ _ _
      rw [show (w.alloc (Obj.cells (ints .i64 c).toArray 107)).heap.size = w.heap.size + 1 from by simp] at h1
      exact h1
  case round =>
    obtain ⟨k, hk, rfl, rfl, hB0, hB1, hB2, hbel⟩ := hrel
    have HB0 := Lib.hid hB0
    have HB1 := Lib.hid hB1
    have HB2 := Lib.hid hB2
    have Hbel := Lib.hid hbel
    clear hB0 hB1 hB2 hbel
    by_cases hlt : k < 15
    · have hck := HB0.out.cell (j := k) (by omega)
      have hr := Hc.out k (by omega)
      have hf := firstAt_le c n (by omega) Hc.out k (by omega)
      have hst := HB2.out.frozen (1 + k)
      have hcl := HB2.out.cell (j := 1 + k) (by rw [firstsTo_length]; omega)
      have El := Lib.hid (show firstAt c (1 + k) = 2 * (firstAt c k + rd c k) from by rw [Nat.add_comm]; rfl)
      have s1 : ((1 : Int) + k).toNat = 1 + k := by omega
      have s2 : IntKind.i64.wrap (1 + (k : Int) - 1) = k := by rw [IntWalk.i64_in _ (by omega)]; omega
      go_wp2
      go_roundw
      case rel =>
        have e1 : (firstAt c k + rd c k) * 2 = firstAt c (1 + k) := by rw [El.out]; omega
        refine ⟨k + 1, by omega, by go_num, by rw [e1, Nat.add_comm], HB0.out.other _ _ (by simp; omega), HB1.out.other _ _ (by simp), ?_, Hbel.out.setCell (by simp; omega) _⟩
        rw [show 1 + (k + 1) = 1 + k + 1 from by omega, firstsTo_next c (1 + k) (by omega), ← e1]
        exact HB2.out.set _ _
      case measure => simp [intOf]; omega
    · have hk15 : k = 15 := by omega
      rw [hk15, show 1 + 15 = 16 from rfl, firstsTo_all] at HB2
      clear hk15
      have hs : (ints .u64 (firstsOf c)).toArray.size = 16 := by rw [ints_size, firstsOf_length]
      have Hs := Lib.hid hs
      clear hs
      go_wp2_with (first
        | (refine wpList_load_row rfl 112 _ rfl (w.heap.size + 1 + 1) rfl 112 _ (0, 0) _ HB2.out Tryd.underlying112 rfl (by rw [Hs.out]; kernel_rfl) ?_)
        | (refine wpList_store_row rfl 112 _ _ rfl (w.heap.size + 1) _ rfl rfl 112 _ HB1.out (by rw [Hs.out]; kernel_rfl) (by rw [Hs.out]; simp [ints]) (ints_one _ _) ?_))
      have hrow := setRow_heap _ (w.heap.size + 1) _ (ints .u64 (firstsOf c)).toArray 112 _ HB1.out
      have hl := run_loadVar_row (P := Tryd.prog) _ (w.heap.size + 1) 112 112 _ _ _ hrow Tryd.underlying112 rfl (by rw [Hs.out]; kernel_rfl)
      refine bodyPost_ret (v := .agg (ints .u64 (firstsOf c)).toArray) ?_ rfl ⟨rfl, ?_⟩
      · simp [results, Tryd.results74, asAddr, hl, Act.put]
      · exact Hbel.out.trans ⟨rfl, rfl, rfl, by simp, fun i hi => setRow_other _ (w.heap.size + 1) i _ (by omega)⟩
end Go.Proofs.YtkjoncllnlmdgaaDoor
/-
  The walk of Codes.
-/
namespace Go.Proofs.YtkjoncllnlmdgaaDoor
open Go.RowKit

theorem elU64 : ElT Tryd.prog 80 58 (.int .u64 0) 1 8 := ⟨Tryd.underlying80, by kernel_rfl, rfl, by decide, by decide⟩

theorem lensOk_at {xs : List Int} (h : lensOk xs = true) (s : Nat) (hs : s < xs.length) : 0 ≤ rd xs s ∧ rd xs s ≤ 15 := by
  have := List.all_eq_true.1 h xs[s] (List.getElem_mem _)
  rw [rd_getElem hs]
  simpa using this

set_option maxHeartbeats 2000000 in
set_option maxRecDepth 200000 in
theorem Codes_calls (A : Option Addr) (n cap : Nat) (xs : List Int) (w : World) (hR : Rd w .i64 A n xs) (hn : n ≤ 1000000) (hok : lensOk xs = true) :
    Calls Tryd.prog 50 #[.slice A n cap] w fun e w' => ∃ v, e = .returned v ∧ w'.ownsRow w.heap.size 58 1 v n (ints .u64 (codesOf xs)) ∧ Below w.heap.size w w' := by
  have HR := Lib.hid hR
  have hlen := Lib.hid hR.1
  have Hok := Lib.hid hok
  clear hR hok
  go_enter Tryd.func50, Tryd.ntmps50
  go_wp2_with fail
  refine (counts_calls A n cap xs _ HR.out (by omega)).mono ?_
  rintro e w1 ⟨l, hl, rfl, hcnt, hb1⟩
  obtain rfl := hcnt Hok.out
  have Hl := Lib.hid hl
  have Hb1 := Lib.hid hb1
  have hs1 := hb1.size
  have Hc := Lib.hid (rd_cntOf xs)
  clear hl hcnt hb1
  generalize hcd : cntOf xs = c at *
  have Hcd := Lib.hid hcd
  clear hcd
  have W2 : Hid (∀ o, Below w.heap.size w (World.setRow (w1.alloc o) w1.heap.size (ints .i64 c).toArray)) := fun o => (below_new Hb1.out (Nat.le_refl _) _).trans ⟨rfl, rfl, rfl, by simp, fun i hi => setRow_other _ w1.heap.size i _ (by omega)⟩
  go_wp2_with (first
    | (refine wpList_store_row rfl 107 _ _ rfl w1.heap.size _ rfl rfl 107 _ (heap_alloc_new _ _) (by rw [ints_size, Hl.out]; kernel_rfl) (by rw [ints_size, Hl.out]; rfl) (ints_one _ _) ?_)
    | (refine wpList_load_row rfl 107 _ rfl w1.heap.size rfl 107 _ (0, 0) _ (setRow_heap _ w1.heap.size _ _ 107 _ (heap_alloc_new _ _)) Tryd.underlying107 rfl (by rw [ints_size, Hl.out]; kernel_rfl) ?_))
  refine (firsts_calls c n _ Hl.out hn (by have := Hc.out; rw [hlen.out] at this; exact this)).mono ?_
  rintro e w2 ⟨rfl, hb2⟩
  have Hb2 := Lib.hid (below_seq (W2.out _) (Nat.le_refl _) hb2)
  have hs2 := Hb2.out.size
  have Fl := Lib.hid (firstsOf_length c)
  have W3 : Hid (∀ o, Below w.heap.size w (World.setRow (w2.alloc o) w2.heap.size (ints .u64 (firstsOf c)).toArray)) := fun o => (below_new Hb2.out (Nat.le_refl _) _).trans ⟨rfl, rfl, rfl, by simp, fun i hi => setRow_other _ w2.heap.size i _ (by omega)⟩
  have B3 : Hid (∀ old, Blk (World.setRow (w2.alloc (.cells old 112)) w2.heap.size (ints .u64 (firstsOf c)).toArray) w2.heap.size 112 .u64 (firstsOf c)) := fun old => setRow_heap _ w2.heap.size _ _ 112 _ (heap_alloc_new w2 (Obj.cells old 112))
  clear hb2 W2 Hb1
  go_wp2_with (first
    | (refine wpList_store_row rfl 112 _ _ rfl w2.heap.size _ rfl rfl 112 _ (heap_alloc_new _ _) (by rw [ints_size, Fl.out]; kernel_rfl) (by rw [ints_size, Fl.out]; rfl) (ints_one _ _) ?_)
    | (at_make; refine wpList_mk1 (base := w.heap.size) (n := n) _ rfl _ _ rfl elU64 rfl rfl rfl rfl (by omega) (by simp; omega) ?_; intro w4 hown4 hb4 hsz4))
  have hown4' : w4.ownsRow w.heap.size 58 1 (.slice (some ⟨w2.heap.size + 1, 0, none⟩) n n) n (ints .u64 (List.replicate n 0)) := by simpa using hown4
  have hsz4' : w4.heap.size = w2.heap.size + 1 + 1 := by simpa using hsz4
  have Hown4 := Lib.hid hown4'
  have HB4 := Lib.hid ((B3.out _).below hb4 (by simp))
  have Hb4 := Lib.hid (below_seq (W3.out _) (Nat.le_refl _) hb4)
  have hs4 : w2.heap.size < w4.heap.size := HB4.out.lt
  clear hown4 hown4' hb4 W3 B3 hsz4
  go_loopw [21] (fun i wr => ∃ (s : Nat) (nx l : List Int), s ≤ n ∧ i = .int .i64 s ∧ wr.ownsRow w.heap.size 58 1 (.slice (some ⟨w2.heap.size + 1, 0, none⟩) n n) n (ints .u64 l) ∧ Blk wr w2.heap.size 112 .u64 nx ∧ nx.length = 16 ∧ Hid (∀ j, 0 < j → j < 16 → rd nx j = nextCode xs j s) ∧ Hid (∀ j, j < n → rd l j = if j < s then codeAt xs j else 0) ∧ Below w.heap.size w wr) (fun i _ => n - (intOf i).toNat)
  case atStart =>
    refine ⟨0, _, _, by omega, rfl, Hown4.out, HB4.out, Fl.out, ?_, ?_, Hb4.out⟩
    · intro j h1 h2
      rw [rd_firstsOf _ _ h2]
      unfold nextCode
      rw [Hcd.out, before_zero]
      exact (Int.add_zero _).symm
    · intro j hj
      rw [if_neg (by omega), rd_getElem (by rw [List.length_replicate]; exact hj), List.getElem_replicate]
  case round =>
    obtain ⟨s, nx, l, hs, rfl, hown, hB, hnl, Hnx, Hl2, hbel⟩ := hrel
    have hll : l.length = n := by have := hown.1; simpa [ints] using this
    have Hown := Lib.hid hown
    have HB := Lib.hid hB
    have Hbel := Lib.hid hbel
    clear hown hB hbel
    by_cases hlt : s < n
    · obtain ⟨b, o, rfl, hcx⟩ := HR.out.2 (by omega)
      have z := kept_cell Hbel.out (hcx s hlt)
      clear hcx
      have hx := lensOk_at Hok.out s (by rw [hlen.out]; exact hlt)
      by_cases h0 : rd xs s = 0
      · have e1 : codeAt xs s = 0 := by unfold codeAt; rw [if_neg (by omega)]
        have H0 := Lib.hid h0
        have Hnx2 : Hid (∀ j, 0 < j → j < 16 → rd nx j = nextCode xs j (s + 1)) := fun j h1 h2 => by
          rw [Hnx.out j h1 h2]
          unfold nextCode
          rw [before_miss xs j s (by rw [hlen.out]; exact hlt) (by rw [H0.out]; omega)]
        rw [h0] at z
        clear h0 hx
        go_wp2
        go_roundw
        case rel =>
          refine ⟨s + 1, nx, l, by omega, by go_num, Hown.out, HB.out, hnl, Hnx2, ?_, Hbel.out⟩
          intro j hj
          rw [Hl2.out j hj]
          by_cases g : j < s
          · rw [if_pos g, if_pos (by omega)]
          · rw [if_neg g]
            by_cases g2 : j = s
            · subst g2; rw [if_pos (by omega), e1]
            · rw [if_neg (by omega)]
        case measure => simp [intOf]; omega
      · obtain ⟨k, hk⟩ : ∃ k : Nat, rd xs s = k := ⟨(rd xs s).toNat, by omega⟩
        rw [hk] at z
        have k1 : 0 < k := by omega
        have k2 : k < 16 := by omega
        have hv := nextCode_range xs k s (by omega)
        rw [hlen.out] at hv
        have e1 : codeAt xs s = rd nx k := by
          unfold codeAt
          rw [if_pos (by omega), hk, Hnx.out k k1 k2]
          rfl
        rw [← Hnx.out k k1 k2] at hv
        have E1 := Lib.hid e1
        have HK := Lib.hid hk
        have yc := HB.out.cell (j := k) (by omega)
        have yf := HB.out.frozen k
        have xc := Hown.out.cellAt s (by omega)
        rw [ints_get (by omega)] at xc
        have xf := Hown.out.frozenAt s
        have Hnx2 : Hid (∀ j, 0 < j → j < 16 → rd (nx.set k (rd nx k + 1)) j = nextCode xs j (s + 1)) := fun j h1 h2 => by
          rw [rd_set (by omega)]
          by_cases e : k = j
          · subst e
            rw [if_pos rfl, Hnx.out k h1 h2]
            unfold nextCode
            rw [before_hit xs k s (by rw [hlen.out]; exact hlt) HK.out]
            omega
          · rw [if_neg e, Hnx.out j h1 h2]
            unfold nextCode
            rw [before_miss xs j s (by rw [hlen.out]; exact hlt) (by rw [HK.out]; omega)]
        clear h0 hx hk e1
        go_wp2
        go_roundw
        case rel =>
          refine ⟨s + 1, nx.set k (rd nx k + 1), l.set s (rd nx k), by omega, by go_num, ?_, ?_, by rw [List.length_set]; exact hnl, Hnx2, ?_, (Hbel.out.setCell (p := ⟨w2.heap.size + 1, s, none⟩) (by show _ ≤ w2.heap.size + 1; omega) _).setCell (p := ⟨w2.heap.size, k, none⟩) hs2 _⟩
          · exact ownsRow_setCell_other (a := ⟨w2.heap.size, k, none⟩) (by rw [ints_set]; exact (Hown.out.stored s _).1) (by simp [Value.ownBlock]) _
          · exact (HB.out.other ⟨w2.heap.size + 1, s, none⟩ _ (by simp)).set k _
          · intro j hj
            rw [rd_set (by omega), Hl2.out j hj]
            by_cases g2 : s = j
            · subst g2; rw [if_pos rfl, if_pos (by omega), E1.out]
            · rw [if_neg g2]
              by_cases g : j < s
              · rw [if_pos g, if_pos (by omega)]
              · rw [if_neg g, if_neg (by omega)]
        case measure => simp [intOf]; omega
    · obtain rfl : s = n := by omega
      have e : l = codesOf xs := ext_rd (by rw [hll, codesOf_length, hlen.out]) (fun j hj => by rw [Hl2.out j (by omega), if_pos (by omega), rd_codesOf _ _ (by rw [hlen.out]; omega)])
      subst e
      go_wp2
      go_ret
      exact ⟨_, rfl, Hown.out, Hbel.out⟩
end Go.Proofs.YtkjoncllnlmdgaaDoor
/-
  Plain facts: the two tests of lengths are one (no program).
-/
namespace Go.Proofs.YtkjoncllnlmdgaaDoor

/-- Horner's sum of f 1 .. f i, each the double of the next. -/
def tot (f : Nat → Int) : Nat → Int
  | 0 => 0
  | i + 1 => 2 * tot f i + f (i + 1)
def plainSum (f : Nat → Int) : Nat → Int
  | 0 => 0
  | i + 1 => plainSum f i + f (i + 1)
theorem tot_add (f g : Nat → Int) (k : Nat) (hk : 0 < k) (i : Nat) (h : ∀ j, 0 < j → j ≤ i → g j = f j + if j = k then 1 else 0) : tot g i = tot f i + if k ≤ i then 2 ^ (i - k) else 0 := by
  induction i with
  | zero => simp [tot]; omega
  | succ i ih =>
    have h1 := ih (fun j h1 h2 => h j h1 (by omega))
    simp only [tot]
    rw [h1, h (i + 1) (by omega) (Nat.le_refl _)]
    by_cases e : k ≤ i
    · rw [if_pos e, if_neg (by omega), if_pos (by omega), show i + 1 - k = (i - k) + 1 from by omega, Int.pow_succ]
      omega
    · rw [if_neg e]
      by_cases e2 : i + 1 = k
      · rw [if_pos e2, if_pos (by omega), show i + 1 - k = 0 from by omega]
        omega
      · rw [if_neg e2, if_neg (by omega)]
        omega
theorem plainSum_add (f g : Nat → Int) (k : Nat) (hk : 0 < k) (i : Nat) (h : ∀ j, 0 < j → j ≤ i → g j = f j + if j = k then 1 else 0) : plainSum g i = plainSum f i + if k ≤ i then 1 else 0 := by
  induction i with
  | zero => simp [plainSum]; omega
  | succ i ih =>
    have h1 := ih (fun j h1 h2 => h j h1 (by omega))
    simp only [plainSum]
    rw [h1, h (i + 1) (by omega) (Nat.le_refl _)]
    by_cases e : k ≤ i
    · rw [if_pos e, if_neg (by omega), if_pos (by omega)]
      omega
    · rw [if_neg e]
      by_cases e2 : i + 1 = k
      · rw [if_pos e2, if_pos (by omega)]
        omega
      · rw [if_neg e2, if_neg (by omega)]
        omega
theorem tot_same (f g : Nat → Int) (i : Nat) (h : ∀ j, 0 < j → j ≤ i → g j = f j) : tot g i = tot f i := by
  induction i with
  | zero => rfl
  | succ i ih => simp only [tot]; rw [ih (fun j h1 h2 => h j h1 (by omega)), h (i + 1) (by omega) (Nat.le_refl _)]
theorem plainSum_same (f g : Nat → Int) (i : Nat) (h : ∀ j, 0 < j → j ≤ i → g j = f j) : plainSum g i = plainSum f i := by
  induction i with
  | zero => rfl
  | succ i ih => simp only [plainSum]; rw [ih (fun j h1 h2 => h j h1 (by omega)), h (i + 1) (by omega) (Nat.le_refl _)]
theorem tot_nil (i : Nat) : tot (fun _ => 0) i = 0 := by
  induction i with
  | zero => rfl
  | succ i ih => simp only [tot]; rw [ih]; rfl
theorem plainSum_nil (i : Nat) : plainSum (fun _ => 0) i = 0 := by
  induction i with
  | zero => rfl
  | succ i ih => simp only [plainSum]; rw [ih]; rfl
theorem leftAt_tot (c : List Int) (i : Nat) : leftAt c i = 2 ^ i - tot (rd c) i := by
  induction i with
  | zero => rfl
  | succ i ih =>
    simp only [leftAt, tot]
    rw [ih, Int.pow_succ]
    omega
theorem sumAt_plain (c : List Int) (i : Nat) : sumAt c i = plainSum (rd c) i := by
  induction i with
  | zero => rfl
  | succ i ih => simp only [sumAt, plainSum]; rw [ih]
/-- What the document sums up, of the first s lengths. -/
def befores (xs : List Int) (s : Nat) (j : Nat) : Int := (before xs j s : Nat)
def sumR (xs : List Int) (s : Nat) : Int := tot (befores xs s) 15
def manyR (xs : List Int) (s : Nat) : Int := plainSum (befores xs s) 15
theorem befores_next (xs : List Int) (s k : Nat) (hs : s < xs.length) (hx : rd xs s = k) (j : Nat) : befores xs (s + 1) j = befores xs s j + if j = k then 1 else 0 := by
  unfold befores
  by_cases e : j = k
  · subst e; rw [before_hit xs j s hs hx, if_pos rfl]; omega
  · rw [before_miss xs j s hs (by rw [hx]; omega), if_neg e]; omega
theorem sumR_next (xs : List Int) (s k : Nat) (hs : s < xs.length) (hx : rd xs s = k) (hk : 0 < k) (hk2 : k ≤ 15) : sumR xs (s + 1) = sumR xs s + 2 ^ (15 - k) := by
  have := tot_add (befores xs s) (befores xs (s + 1)) k hk 15 (fun j _ _ => befores_next xs s k hs hx j)
  rw [if_pos hk2] at this
  exact this
theorem manyR_next (xs : List Int) (s k : Nat) (hs : s < xs.length) (hx : rd xs s = k) (hk : 0 < k) (hk2 : k ≤ 15) : manyR xs (s + 1) = manyR xs s + 1 := by
  have := plainSum_add (befores xs s) (befores xs (s + 1)) k hk 15 (fun j _ _ => befores_next xs s k hs hx j)
  rw [if_pos hk2] at this
  exact this
theorem sumR_zero (xs : List Int) (s : Nat) (hs : s < xs.length) (hx : rd xs s = 0) : sumR xs (s + 1) = sumR xs s :=
  tot_same _ _ 15 (fun j h1 _ => by unfold befores; rw [before_miss xs j s hs (by rw [hx]; omega)])
theorem manyR_zero (xs : List Int) (s : Nat) (hs : s < xs.length) (hx : rd xs s = 0) : manyR xs (s + 1) = manyR xs s :=
  plainSum_same _ _ 15 (fun j h1 _ => by unfold befores; rw [before_miss xs j s hs (by rw [hx]; omega)])
theorem sumR_start (xs : List Int) : sumR xs 0 = 0 := (tot_same (fun _ => 0) _ 15 (fun j _ _ => by unfold befores; rw [before_zero]; rfl)).trans (tot_nil 15)
theorem manyR_start (xs : List Int) : manyR xs 0 = 0 := (plainSum_same (fun _ => 0) _ 15 (fun j _ _ => by unfold befores; rw [before_zero]; rfl)).trans (plainSum_nil 15)
theorem cnt_befores (xs : List Int) (j : Nat) (h : 0 < j) (h2 : j ≤ 15) : rd (cntOf xs) j = befores xs xs.length j := rd_cntOf_pos xs j h (by omega)
theorem left_end (xs : List Int) : leftAt (cntOf xs) 15 = 32768 - sumR xs xs.length := by
  rw [leftAt_tot, tot_same (befores xs xs.length) (rd (cntOf xs)) 15 (fun j h1 h2 => cnt_befores xs j h1 h2), show ((2 : Int) ^ 15) = 32768 from by decide +kernel]
  rfl
theorem sum_end (xs : List Int) : sumAt (cntOf xs) 15 = manyR xs xs.length := by
  rw [sumAt_plain, plainSum_same (befores xs xs.length) (rd (cntOf xs)) 15 (fun j h1 h2 => cnt_befores xs j h1 h2)]
  rfl
/-- The steps need no look of their own. -/
theorem left_neg (c : List Int) (hc : ∀ j, j < 16 → 0 ≤ rd c j) (i d : Nat) (h : leftAt c i < 0) (hd : i + d ≤ 15) : leftAt c (i + d) < 0 := by
  induction d with
  | zero => exact h
  | succ d ih =>
    have h1 := ih (by omega)
    have h2 := hc (i + d + 1) (by omega)
    show leftAt c (i + d + 1) < 0
    simp only [leftAt]
    omega
theorem sum_mono (c : List Int) (hc : ∀ j, j < 16 → 0 ≤ rd c j) (i d : Nat) (hd : i + d ≤ 15) : sumAt c i ≤ sumAt c (i + d) := by
  induction d with
  | zero => exact Int.le_refl _
  | succ d ih =>
    have h1 := ih (by omega)
    have h2 := hc (i + d + 1) (by omega)
    show sumAt c i ≤ sumAt c (i + d + 1)
    simp only [sumAt]
    omega
theorem left_alone (c : List Int) (hc : ∀ j, j < 16 → 0 ≤ rd c j) (h1 : rd c 1 = 1) (hs : sumAt c 15 = 1) (i : Nat) (hi : i < 15) : 1 ≤ leftAt c (i + 1) := by
  induction i with
  | zero => simp only [leftAt, Nat.zero_add]; omega
  | succ i ih =>
    have h2 := ih (by omega)
    have h3 := sum_mono c hc 1 i (by omega)
    have h4 := sum_mono c hc (i + 2) (15 - (i + 2)) (by omega)
    rw [show i + 2 + (15 - (i + 2)) = 15 from by omega, hs] at h4
    have h5 : sumAt c 1 = 1 := by simp only [sumAt, Nat.zero_add]; omega
    have h6 : sumAt c (i + 2) = sumAt c (i + 1) + rd c (i + 2) := rfl
    rw [Nat.add_comm 1 i] at h3
    have h7 := hc (i + 2) (by omega)
    show 1 ≤ 2 * leftAt c (i + 1) - rd c (i + 2)
    omega
theorem rightOf_end (c : List Int) (hc : ∀ j, j < 16 → 0 ≤ rd c j) : rightOf c = (leftAt c 15 == 0 || (sumAt c 15 == 1 && rd c 1 == 1)) := by
  unfold rightOf
  cases hl : leftOk c 15
  · rw [Bool.false_and]
    have hex : ∃ i, i < 15 ∧ leftAt c (i + 1) < 0 := by
      unfold leftOk at hl
      rw [List.all_eq_false] at hl
      obtain ⟨i, hi, hn⟩ := hl
      exact ⟨i, List.mem_range.1 hi, by simpa using hn⟩
    obtain ⟨i, hi, hn⟩ := hex
    have h1 := left_neg c hc (i + 1) (15 - (i + 1)) hn (by omega)
    rw [show i + 1 + (15 - (i + 1)) = 15 from by omega] at h1
    have e1 : (leftAt c 15 == 0) = false := by simp; omega
    rw [e1, Bool.false_or]
    cases e2 : (sumAt c 15 == 1)
    · rfl
    · cases e3 : (rd c 1 == 1)
      · rfl
      · have h9 : 1 ≤ leftAt c 15 := left_alone c hc (by simpa using e3) (by simpa using e2) 14 (by omega)
        omega
  · rw [Bool.true_and]
def rightR (xs : List Int) : Bool := lensOk xs && (sumR xs xs.length == 32768 || (manyR xs xs.length == 1 && befores xs xs.length 1 == 1))
theorem rightR_eq (xs : List Int) : rightR xs = rightB xs := by
  unfold rightR rightB
  rw [rightOf_end _ (fun j hj => (rd_cntOf xs j hj).1), left_end, sum_end, cnt_befores xs 1 (by omega) (by omega)]
  have : (32768 - sumR xs xs.length == 0) = (sumR xs xs.length == 32768) := by
    rw [Bool.eq_iff_iff]
    simp
    omega
  rw [this]
end Go.Proofs.YtkjoncllnlmdgaaDoor
