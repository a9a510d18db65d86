/-
  Plain facts: the two tests of lengths are one (no program).
-/
import Derived.Test.YtempgkglhgelkaaHuffP
namespace Go.Proofs.Ytempgkglhgelkaa

/-- Horner's sum of f 1 .. f i, each the double of the next. -/
def tot (f : Nat → Int) : Nat → Int
  | 0 => 0
  | i + 1 => 2 * tot f i + f (i + 1)
def plainSum (f : Nat → Int) : Nat → Int
  | 0 => 0
  | i + 1 => plainSum f i + f (i + 1)
theorem tot_add (f g : Nat → Int) (k : Nat) (hk : 0 < k) (i : Nat) (h : ∀ j, 0 < j → j ≤ i → g j = f j + if j = k then 1 else 0) : tot g i = tot f i + if k ≤ i then 2 ^ (i - k) else 0 := by
  induction i with
  | zero => simp [tot]; omega
  | succ i ih =>
    have h1 := ih (fun j h1 h2 => h j h1 (by omega))
    simp only [tot]
    rw [h1, h (i + 1) (by omega) (Nat.le_refl _)]
    by_cases e : k ≤ i
    · rw [if_pos e, if_neg (by omega), if_pos (by omega), show i + 1 - k = (i - k) + 1 from by omega, Int.pow_succ]
      omega
    · rw [if_neg e]
      by_cases e2 : i + 1 = k
      · rw [if_pos e2, if_pos (by omega), show i + 1 - k = 0 from by omega]
        omega
      · rw [if_neg e2, if_neg (by omega)]
        omega
theorem plainSum_add (f g : Nat → Int) (k : Nat) (hk : 0 < k) (i : Nat) (h : ∀ j, 0 < j → j ≤ i → g j = f j + if j = k then 1 else 0) : plainSum g i = plainSum f i + if k ≤ i then 1 else 0 := by
  induction i with
  | zero => simp [plainSum]; omega
  | succ i ih =>
    have h1 := ih (fun j h1 h2 => h j h1 (by omega))
    simp only [plainSum]
    rw [h1, h (i + 1) (by omega) (Nat.le_refl _)]
    by_cases e : k ≤ i
    · rw [if_pos e, if_neg (by omega), if_pos (by omega)]
      omega
    · rw [if_neg e]
      by_cases e2 : i + 1 = k
      · rw [if_pos e2, if_pos (by omega)]
        omega
      · rw [if_neg e2, if_neg (by omega)]
        omega
theorem tot_same (f g : Nat → Int) (i : Nat) (h : ∀ j, 0 < j → j ≤ i → g j = f j) : tot g i = tot f i := by
  induction i with
  | zero => rfl
  | succ i ih => simp only [tot]; rw [ih (fun j h1 h2 => h j h1 (by omega)), h (i + 1) (by omega) (Nat.le_refl _)]
theorem plainSum_same (f g : Nat → Int) (i : Nat) (h : ∀ j, 0 < j → j ≤ i → g j = f j) : plainSum g i = plainSum f i := by
  induction i with
  | zero => rfl
  | succ i ih => simp only [plainSum]; rw [ih (fun j h1 h2 => h j h1 (by omega)), h (i + 1) (by omega) (Nat.le_refl _)]
theorem tot_nil (i : Nat) : tot (fun _ => 0) i = 0 := by
  induction i with
  | zero => rfl
  | succ i ih => simp only [tot]; rw [ih]; rfl
theorem plainSum_nil (i : Nat) : plainSum (fun _ => 0) i = 0 := by
  induction i with
  | zero => rfl
  | succ i ih => simp only [plainSum]; rw [ih]; rfl
theorem leftAt_tot (c : List Int) (i : Nat) : leftAt c i = 2 ^ i - tot (rd c) i := by
  induction i with
  | zero => rfl
  | succ i ih =>
    simp only [leftAt, tot]
    rw [ih, Int.pow_succ]
    omega
theorem sumAt_plain (c : List Int) (i : Nat) : sumAt c i = plainSum (rd c) i := by
  induction i with
  | zero => rfl
  | succ i ih => simp only [sumAt, plainSum]; rw [ih]
/-- What the document sums up, of the first s lengths. -/
def befores (xs : List Int) (s : Nat) (j : Nat) : Int := (before xs j s : Nat)
def sumR (xs : List Int) (s : Nat) : Int := tot (befores xs s) 15
def manyR (xs : List Int) (s : Nat) : Int := plainSum (befores xs s) 15
theorem befores_next (xs : List Int) (s k : Nat) (hs : s < xs.length) (hx : rd xs s = k) (j : Nat) : befores xs (s + 1) j = befores xs s j + if j = k then 1 else 0 := by
  unfold befores
  by_cases e : j = k
  · subst e; rw [before_hit xs j s hs hx, if_pos rfl]; omega
  · rw [before_miss xs j s hs (by rw [hx]; omega), if_neg e]; omega
theorem sumR_next (xs : List Int) (s k : Nat) (hs : s < xs.length) (hx : rd xs s = k) (hk : 0 < k) (hk2 : k ≤ 15) : sumR xs (s + 1) = sumR xs s + 2 ^ (15 - k) := by
  have := tot_add (befores xs s) (befores xs (s + 1)) k hk 15 (fun j _ _ => befores_next xs s k hs hx j)
  rw [if_pos hk2] at this
  exact this
theorem manyR_next (xs : List Int) (s k : Nat) (hs : s < xs.length) (hx : rd xs s = k) (hk : 0 < k) (hk2 : k ≤ 15) : manyR xs (s + 1) = manyR xs s + 1 := by
  have := plainSum_add (befores xs s) (befores xs (s + 1)) k hk 15 (fun j _ _ => befores_next xs s k hs hx j)
  rw [if_pos hk2] at this
  exact this
theorem sumR_zero (xs : List Int) (s : Nat) (hs : s < xs.length) (hx : rd xs s = 0) : sumR xs (s + 1) = sumR xs s :=
  tot_same _ _ 15 (fun j h1 _ => by unfold befores; rw [before_miss xs j s hs (by rw [hx]; omega)])
theorem manyR_zero (xs : List Int) (s : Nat) (hs : s < xs.length) (hx : rd xs s = 0) : manyR xs (s + 1) = manyR xs s :=
  plainSum_same _ _ 15 (fun j h1 _ => by unfold befores; rw [before_miss xs j s hs (by rw [hx]; omega)])
theorem sumR_start (xs : List Int) : sumR xs 0 = 0 := (tot_same (fun _ => 0) _ 15 (fun j _ _ => by unfold befores; rw [before_zero]; rfl)).trans (tot_nil 15)
theorem manyR_start (xs : List Int) : manyR xs 0 = 0 := (plainSum_same (fun _ => 0) _ 15 (fun j _ _ => by unfold befores; rw [before_zero]; rfl)).trans (plainSum_nil 15)
theorem cnt_befores (xs : List Int) (j : Nat) (h : 0 < j) (h2 : j ≤ 15) : rd (cntOf xs) j = befores xs xs.length j := rd_cntOf_pos xs j h (by omega)
theorem left_end (xs : List Int) : leftAt (cntOf xs) 15 = 32768 - sumR xs xs.length := by
  rw [leftAt_tot, tot_same (befores xs xs.length) (rd (cntOf xs)) 15 (fun j h1 h2 => cnt_befores xs j h1 h2), show ((2 : Int) ^ 15) = 32768 from by decide +kernel]
  rfl
theorem sum_end (xs : List Int) : sumAt (cntOf xs) 15 = manyR xs xs.length := by
  rw [sumAt_plain, plainSum_same (befores xs xs.length) (rd (cntOf xs)) 15 (fun j h1 h2 => cnt_befores xs j h1 h2)]
  rfl
/-- The steps need no look of their own. -/
theorem left_neg (c : List Int) (hc : ∀ j, j < 16 → 0 ≤ rd c j) (i d : Nat) (h : leftAt c i < 0) (hd : i + d ≤ 15) : leftAt c (i + d) < 0 := by
  induction d with
  | zero => exact h
  | succ d ih =>
    have h1 := ih (by omega)
    have h2 := hc (i + d + 1) (by omega)
    show leftAt c (i + d + 1) < 0
    simp only [leftAt]
    omega
theorem sum_mono (c : List Int) (hc : ∀ j, j < 16 → 0 ≤ rd c j) (i d : Nat) (hd : i + d ≤ 15) : sumAt c i ≤ sumAt c (i + d) := by
  induction d with
  | zero => exact Int.le_refl _
  | succ d ih =>
    have h1 := ih (by omega)
    have h2 := hc (i + d + 1) (by omega)
    show sumAt c i ≤ sumAt c (i + d + 1)
    simp only [sumAt]
    omega
theorem left_alone (c : List Int) (hc : ∀ j, j < 16 → 0 ≤ rd c j) (h1 : rd c 1 = 1) (hs : sumAt c 15 = 1) (i : Nat) (hi : i < 15) : 1 ≤ leftAt c (i + 1) := by
  induction i with
  | zero => simp only [leftAt, Nat.zero_add]; omega
  | succ i ih =>
    have h2 := ih (by omega)
    have h3 := sum_mono c hc 1 i (by omega)
    have h4 := sum_mono c hc (i + 2) (15 - (i + 2)) (by omega)
    rw [show i + 2 + (15 - (i + 2)) = 15 from by omega, hs] at h4
    have h5 : sumAt c 1 = 1 := by simp only [sumAt, Nat.zero_add]; omega
    have h6 : sumAt c (i + 2) = sumAt c (i + 1) + rd c (i + 2) := rfl
    rw [Nat.add_comm 1 i] at h3
    have h7 := hc (i + 2) (by omega)
    show 1 ≤ 2 * leftAt c (i + 1) - rd c (i + 2)
    omega
theorem rightOf_end (c : List Int) (hc : ∀ j, j < 16 → 0 ≤ rd c j) : rightOf c = (leftAt c 15 == 0 || (sumAt c 15 == 1 && rd c 1 == 1)) := by
  unfold rightOf
  cases hl : leftOk c 15
  · rw [Bool.false_and]
    have hex : ∃ i, i < 15 ∧ leftAt c (i + 1) < 0 := by
      unfold leftOk at hl
      rw [List.all_eq_false] at hl
      obtain ⟨i, hi, hn⟩ := hl
      exact ⟨i, List.mem_range.1 hi, by simpa using hn⟩
    obtain ⟨i, hi, hn⟩ := hex
    have h1 := left_neg c hc (i + 1) (15 - (i + 1)) hn (by omega)
    rw [show i + 1 + (15 - (i + 1)) = 15 from by omega] at h1
    have e1 : (leftAt c 15 == 0) = false := by simp; omega
    rw [e1, Bool.false_or]
    cases e2 : (sumAt c 15 == 1)
    · rfl
    · cases e3 : (rd c 1 == 1)
      · rfl
      · have h9 : 1 ≤ leftAt c 15 := left_alone c hc (by simpa using e3) (by simpa using e2) 14 (by omega)
        omega
  · rw [Bool.true_and]
def rightR (xs : List Int) : Bool := lensOk xs && (sumR xs xs.length == 32768 || (manyR xs xs.length == 1 && befores xs xs.length 1 == 1))
theorem rightR_eq (xs : List Int) : rightR xs = rightB xs := by
  unfold rightR rightB
  rw [rightOf_end _ (fun j hj => (rd_cntOf xs j hj).1), left_end, sum_end, cnt_befores xs 1 (by omega) (by omega)]
  have : (32768 - sumR xs xs.length == 0) = (sumR xs xs.length == 32768) := by
    rw [Bool.eq_iff_iff]
    simp
    omega
  rw [this]
end Go.Proofs.Ytempgkglhgelkaa
