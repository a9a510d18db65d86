/-
  Plain facts: what an item tells.
-/
import Derived.Test.YtempgkglhgelkaaCodesP
namespace Go.Proofs.Ytempgkglhgelkaa
theorem takeWhile_all {xs : List Int} {p : Int → Bool} {j : Nat} (h : j < (xs.takeWhile p).length) : p (rd xs j) = true := by
  induction xs generalizing j with
  | nil => simp at h
  | cons x xs ih =>
    by_cases hx : p x = true
    · simp only [List.takeWhile, hx, List.length_cons] at h
      cases j with
      | zero => simpa [rd] using hx
      | succ j => simpa [rd] using ih (by omega)
    · have hx' : p x = false := by simpa using hx
      simp [List.takeWhile, hx'] at h
theorem runLen_all {xs : List Int} {k j : Nat} (h : j < runLen xs k) : rd xs (k + j) = rd xs k := by
  have := takeWhile_all (xs := xs.drop k) (p := fun x => x == rd xs k) h
  rw [rd_drop] at this
  simpa using this
/-- What stands at a place: one of four. -/
theorem itemAt_kind (xs : List Int) (k : Nat) :
    (∃ e : Nat, itemAt xs k = (⟨18, 7, e⟩, 11 + e) ∧ e ≤ 127 ∧ rd xs k = 0) ∨
    (∃ e : Nat, itemAt xs k = (⟨17, 3, e⟩, 3 + e) ∧ e ≤ 7 ∧ rd xs k = 0) ∨
    (∃ e : Nat, itemAt xs k = (⟨16, 2, e⟩, 3 + e) ∧ e ≤ 3 ∧ 0 < k ∧ rd xs (k - 1) = rd xs k) ∨
    itemAt xs k = (⟨rd xs k, 0, 0⟩, 1) := by
  by_cases h0 : rd xs k = 0
  · by_cases h1 : 11 ≤ runLen xs k
    · refine .inl ⟨min (runLen xs k) 138 - 11, ?_, by omega, h0⟩
      rw [itemAt_18 h0 h1]
      simp only [Prod.mk.injEq, Item.mk.injEq, true_and]
      omega
    · by_cases h2 : 3 ≤ runLen xs k
      · refine .inr (.inl ⟨runLen xs k - 3, ?_, by omega, h0⟩)
        rw [itemAt_17 h0 h2 (by omega)]
        simp only [Prod.mk.injEq, Item.mk.injEq, true_and]
        omega
      · exact .inr (.inr (.inr (itemAt_one (.inl ⟨h0, by omega⟩))))
  · by_cases h : 0 < k ∧ rd xs (k - 1) = rd xs k ∧ 3 ≤ runLen xs k
    · obtain ⟨h1, h2, h3⟩ := h
      refine .inr (.inr (.inl ⟨min (runLen xs k) 6 - 3, ?_, by omega, h1, h2⟩))
      rw [itemAt_16 h0 h1 h2 h3]
      simp only [Prod.mk.injEq, Item.mk.injEq, true_and]
      omega
    · refine .inr (.inr (.inr (itemAt_one (.inr ⟨h0, ?_⟩))))
      by_cases h1 : k = 0
      · exact .inl h1
      · by_cases h2 : rd xs (k - 1) = rd xs k
        · exact .inr (.inr (by omega))
        · exact .inr (.inl h2)
/-- All that an item covers is alike. -/
theorem itemAt_alike (xs : List Int) (k : Nat) (hk : k < xs.length) : ∀ j, j < (itemAt xs k).2 → rd xs (k + j) = rd xs k := by
  have hp := runLen_pos hk
  intro j hj
  have : (itemAt xs k).2 ≤ runLen xs k := by
    unfold itemAt
    split <;> (try split) <;> (try split) <;> simp <;> omega
  exact runLen_all (by omega)
theorem take_next (xs : List Int) (k j : Nat) (v : Int) (h : k + j < xs.length) (hv : rd xs (k + j) = v) : xs.take (k + j + 1) = xs.take (k + j) ++ [v] := by
  rw [List.take_succ_eq_append_getElem h, ← rd_getElem h, hv]
theorem rd_take (xs : List Int) (k j : Nat) (h : j < k) : rd (xs.take k) j = rd xs j := by simp [rd, List.getD_eq_getElem?_getD, h]
end Go.Proofs.Ytempgkglhgelkaa
