/-
  Plain facts: weights that are 0, behind (no program).
-/
import Derived.Test.YtempgkglhgelkaaHuffZ
namespace Go.Proofs.Ytempgkglhgelkaa
theorem rd_zerosR (ws : List Int) (k j : Nat) : rd (ws ++ List.replicate k 0) j = rd ws j := by
  rcases Nat.lt_or_ge j ws.length with h | h
  · exact rd_append_left h
  · unfold rd
    rw [List.getD_eq_getElem?_getD, List.getD_eq_getElem?_getD, List.getElem?_append_right h, List.getElem?_replicate, List.getElem?_eq_none h]
    split <;> rfl
theorem rd_past {ws : List Int} {j : Nat} (h : ws.length ≤ j) : rd ws j = 0 := by
  unfold rd
  rw [List.getD_eq_getElem?_getD, List.getElem?_eq_none h]
  rfl
theorem leavesTo_zeros (ws : List Int) (k : Nat) : ∀ m, leavesTo (ws ++ List.replicate k 0) (ws.length + m) = leavesTo ws ws.length := by
  have e1 : ∀ m, leavesTo (ws ++ List.replicate k 0) m = leavesTo ws m := fun m => by
    unfold leavesTo
    simp only [rd_zerosR]
  intro m
  rw [e1]
  induction m with
  | zero => rfl
  | succ m ih =>
    have h0 := rd_past (ws := ws) (j := ws.length + m) (by omega)
    rw [← ih]
    unfold leavesTo
    rw [show ws.length + (m + 1) = ws.length + m + 1 from rfl, List.range_succ, List.filter_append]
    simp [h0]
theorem leavesOf_zeros (ws : List Int) (k : Nat) : leavesOf (ws ++ List.replicate k 0) = leavesOf ws := by
  unfold leavesOf
  rw [List.length_append, List.length_replicate, leavesTo_zeros]
theorem rootOf_zeros (ws : List Int) (k : Nat) : rootOf (ws ++ List.replicate k 0) = rootOf ws := by
  unfold rootOf
  rw [leavesOf_zeros]
theorem onceM_zeros (ws : List Int) (k : Nat) : onceM (ws ++ List.replicate k 0) = onceM ws ++ List.replicate k 0 := by
  apply List.ext_getElem
  · simp [onceM]
  · intro i h1 h2
    rcases Nat.lt_or_ge i ws.length with h | h
    · rw [List.getElem_append_left (by rw [onceM_length]; exact h)]
      simp only [onceM, List.getElem_map, List.getElem_range, rootOf_zeros]
    · rw [List.getElem_append_right (by rw [onceM_length]; exact h)]
      have hn : depIn (rootOf ws) i = none := by
        rw [depIn_none, (rootOf_syms ws).mem_iff, mem_posTo]
        omega
      simp only [onceM, List.getElem_map, List.getElem_range, rootOf_zeros, hn, List.getElem_replicate]
theorem halve_zeros (ws : List Int) (k : Nat) : halve (ws ++ List.replicate k 0) = halve ws ++ List.replicate k 0 := by
  simp [halve]
theorem lensM_zeros (m k : Nat) : ∀ (f : Nat) (ws : List Int), lensM f m (ws ++ List.replicate k 0) = lensM f m ws ++ List.replicate k 0
  | 0, ws => onceM_zeros ws k
  | f + 1, ws => by
    have hall : (onceM (ws ++ List.replicate k 0)).all (fun x => decide (x ≤ (m : Int))) = (onceM ws).all (fun x => decide (x ≤ (m : Int))) := by
      rw [onceM_zeros, List.all_append]
      have : (List.replicate k (0 : Int)).all (fun x => decide (x ≤ (m : Int))) = true := by
        rw [List.all_eq_true]
        intro x hx
        rw [List.eq_of_mem_replicate hx]
        simp
      rw [this, Bool.and_true]
    unfold lensM
    rw [hall]
    split
    · exact onceM_zeros ws k
    · rw [halve_zeros, lensM_zeros m k f]
theorem sum_zeros (ws : List Int) (k : Nat) : (ws ++ List.replicate k 0).sum = ws.sum := by
  rw [List.sum_append]
  have : ∀ k, (List.replicate k (0 : Int)).sum = 0 := by
    intro k
    induction k with
    | zero => rfl
    | succ k ih => rw [List.replicate_succ, List.sum_cons, ih]; rfl
  rw [this]
  omega
theorem lensOf_zeros (m k : Nat) (ws : List Int) : lensOf m (ws ++ List.replicate k 0) = lensOf m ws ++ List.replicate k 0 := by
  unfold lensOf
  rw [sum_zeros]
  exact lensM_zeros m k _ ws
theorem posTo_zeros (ws : List Int) (k : Nat) : (posTo (ws ++ List.replicate k 0) (ws ++ List.replicate k 0).length).length = (posTo ws ws.length).length := by
  rw [← leavesTo_length, ← leavesTo_length, List.length_append, List.length_replicate, leavesTo_zeros]
theorem lensM_length (m : Nat) : ∀ (f : Nat) (ws : List Int), (lensM f m ws).length = ws.length
  | 0, ws => onceM_length ws
  | f + 1, ws => by
    unfold lensM
    split
    · exact onceM_length ws
    · rw [lensM_length m f, halve_length]
theorem lensOf_length (m : Nat) (ws : List Int) : (lensOf m ws).length = ws.length := lensM_length m _ ws
end Go.Proofs.Ytempgkglhgelkaa
