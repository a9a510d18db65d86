/-
  Plain facts about canonical codes (no program): first codes, codes, what is left.
-/
import Derived.Test.YtempgkglhgelkaaHuffW
namespace Go.Proofs.Ytempgkglhgelkaa

/-- The first code of a length. -/
def firstAt (c : List Int) : Nat → Int
  | 0 => 0
  | k + 1 => 2 * (firstAt c k + rd c k)
theorem firstAt_range (c : List Int) (n : Int) (hc : ∀ j, j < 16 → 0 ≤ rd c j ∧ rd c j ≤ n) (k : Nat) (hk : k ≤ 16) : 0 ≤ firstAt c k ∧ firstAt c k + 2 * n ≤ 2 * n * 2 ^ k := by
  induction k with
  | zero => simp [firstAt]
  | succ k ih =>
    have h1 := ih (by omega)
    have h2 := hc k (by omega)
    have e : 2 * n * 2 ^ (k + 1) = 2 * (2 * n * 2 ^ k) := by rw [Int.pow_succ, ← Int.mul_assoc, Int.mul_comm _ 2]
    rw [e]
    simp only [firstAt]
    omega
theorem firstAt_le (c : List Int) (n : Int) (hn : 0 ≤ n) (hc : ∀ j, j < 16 → 0 ≤ rd c j ∧ rd c j ≤ n) (k : Nat) (hk : k ≤ 16) : 0 ≤ firstAt c k ∧ firstAt c k ≤ 131072 * n := by
  have h1 := firstAt_range c n hc k hk
  have h2 : 2 * n * 2 ^ k ≤ 2 * n * 2 ^ 16 := by
    refine Int.mul_le_mul_of_nonneg_left ?_ (by omega)
    have : (2 : Nat) ^ k ≤ 2 ^ 16 := Nat.pow_le_pow_right (by omega) hk
    exact_mod_cast this
  have h3 : 2 * n * 2 ^ 16 = 131072 * n := by
    rw [show ((2 : Int) ^ 16) = 65536 from by decide +kernel]
    omega
  omega
def firstsOf (c : List Int) : List Int := (List.range 16).map (firstAt c)
theorem firstsOf_length (c : List Int) : (firstsOf c).length = 16 := by simp [firstsOf]
theorem rd_firstsOf (c : List Int) (j : Nat) (h : j < 16) : rd (firstsOf c) j = firstAt c j := by
  rw [rd_getElem (by rw [firstsOf_length]; exact h)]
  simp [firstsOf]
/-- How many of the first s have that length. -/
def before (xs : List Int) (k : Int) (s : Nat) : Nat := ((xs.take s).filter fun x => x == k).length
theorem before_zero (xs : List Int) (k : Int) : before xs k 0 = 0 := by simp [before]
theorem before_hit (xs : List Int) (k : Int) (s : Nat) (hs : s < xs.length) (h : rd xs s = k) : before xs k (s + 1) = before xs k s + 1 := by
  unfold before
  rw [List.take_succ_eq_append_getElem hs, ← rd_getElem hs, List.filter_append, h]
  simp
theorem before_miss (xs : List Int) (k : Int) (s : Nat) (hs : s < xs.length) (h : rd xs s ≠ k) : before xs k (s + 1) = before xs k s := by
  unfold before
  rw [List.take_succ_eq_append_getElem hs, ← rd_getElem hs, List.filter_append]
  have : (rd xs s == k) = false := by simpa using h
  simp [this]
theorem before_le (xs : List Int) (k : Int) (s : Nat) : before xs k s ≤ s := by
  have h1 := List.length_filter_le (fun x => x == k) (xs.take s)
  have h2 := List.length_take_le s xs
  unfold before
  omega
theorem rd_cntOf_pos (xs : List Int) (k : Nat) (h : 0 < k) (h2 : k < 16) : rd (cntOf xs) k = (before xs k xs.length : Nat) := by
  unfold cntOf
  rw [rd_set (by rw [cntTo_length]; omega), if_neg (by omega), rd_cntTo _ _ _ h2]
  rfl
theorem rd_cntOf_zero (xs : List Int) : rd (cntOf xs) 0 = 0 := by
  unfold cntOf
  rw [rd_set (by rw [cntTo_length]; omega), if_pos rfl]
/-- The next code of length k behind the first s symbols. -/
def nextCode (xs : List Int) (k s : Nat) : Int := firstAt (cntOf xs) k + (before xs k s : Nat)
theorem nextCode_over (xs : List Int) (k : Nat) (h : 0 < k) (h2 : k < 16) : nextCode xs (k + 1) 0 = 2 * nextCode xs k xs.length := by
  unfold nextCode
  rw [before_zero]
  simp only [firstAt]
  rw [rd_cntOf_pos xs k h h2]
  omega
theorem nextCode_one (xs : List Int) : nextCode xs 1 0 = 0 := by
  unfold nextCode
  rw [before_zero]
  simp only [firstAt]
  rw [rd_cntOf_zero]
  rfl
theorem nextCode_range (xs : List Int) (k s : Nat) (hk : k ≤ 16) : 0 ≤ nextCode xs k s ∧ nextCode xs k s ≤ 131072 * xs.length + s := by
  have h1 := firstAt_le (cntOf xs) xs.length (by omega) (rd_cntOf xs) k hk
  have h2 := before_le xs k s
  unfold nextCode
  omega
/-- The code of a symbol; 0, if it has none. -/
def codeAt (xs : List Int) (s : Nat) : Int := if 0 < rd xs s ∧ rd xs s ≤ 15 then nextCode xs (rd xs s).toNat s else 0
def codesOf (xs : List Int) : List Int := (List.range xs.length).map (codeAt xs)
theorem codesOf_length (xs : List Int) : (codesOf xs).length = xs.length := by simp [codesOf]
theorem rd_codesOf (xs : List Int) (j : Nat) (h : j < xs.length) : rd (codesOf xs) j = codeAt xs j := by
  rw [rd_getElem (by rw [codesOf_length]; exact h)]
  simp [codesOf]
end Go.Proofs.Ytempgkglhgelkaa
