/-
  Plain facts: trees of symbols by weights (no program).
-/
import Derived.Test.YtempgkglhgelkaaB
namespace Go.Proofs.Ytempgkglhgelkaa

/-- A tree of symbols; a leaf has a weight. -/
inductive HT where
  | leaf (w : Int) (s : Nat)
  | node (l r : HT)
def HT.wt : HT → Int
  | .leaf w _ => w
  | .node l r => l.wt + r.wt
def HT.syms : HT → List Nat
  | .leaf _ s => [s]
  | .node l r => l.syms ++ r.syms
/-- Symbols and their depths. -/
def HT.dep : HT → List (Nat × Nat)
  | .leaf _ s => [(s, 0)]
  | .node l r => (l.dep ++ r.dep).map fun p => (p.1, p.2 + 1)
instance : Inhabited HT := ⟨.leaf 0 0⟩
theorem HT.dep_syms (t : HT) : t.dep.map Prod.fst = t.syms := by
  induction t with
  | leaf w s => rfl
  | node l r h1 h2 =>
    simp only [HT.dep, HT.syms, List.map_map]
    rw [← h1, ← h2, ← List.map_append]
    rfl
/-- The place of the first least one. -/
def minPos : List Int → Nat
  | [] => 0
  | [_] => 0
  | x :: y :: r => if rd (y :: r) (minPos (y :: r)) < x then minPos (y :: r) + 1 else 0
theorem rd_cons_succ (x : Int) (l : List Int) (j : Nat) : rd (x :: l) (j + 1) = rd l j := by simp [rd]
theorem rd_cons_zero (x : Int) (l : List Int) : rd (x :: l) 0 = x := by simp [rd]
theorem minPos_spec : ∀ l : List Int, 0 < l.length → minPos l < l.length ∧ (∀ i, i < l.length → rd l (minPos l) ≤ rd l i) ∧ ∀ i, i < minPos l → rd l (minPos l) < rd l i
  | [], h => by simp at h
  | [x], _ => by
    refine ⟨by simp [minPos], fun i hi => ?_, fun i hi => by simp [minPos] at hi⟩
    simp at hi
    subst hi
    exact Int.le_refl _
  | x :: y :: r, _ => by
    obtain ⟨h1, h2, h3⟩ := minPos_spec (y :: r) (by simp)
    unfold minPos
    split
    · rename_i h
      refine ⟨by simp at h1 ⊢; omega, fun i hi => ?_, fun i hi => ?_⟩
      · rw [rd_cons_succ]
        rcases i with _ | i
        · rw [rd_cons_zero]; omega
        · rw [rd_cons_succ]
          exact h2 i (by simp at hi ⊢; omega)
      · rw [rd_cons_succ]
        rcases i with _ | i
        · rw [rd_cons_zero]; omega
        · rw [rd_cons_succ]
          exact h3 i (by omega)
    · rename_i h
      refine ⟨by simp, fun i hi => ?_, fun i hi => by omega⟩
      rw [rd_cons_zero]
      rcases i with _ | i
      · rw [rd_cons_zero]; omega
      · rw [rd_cons_succ]
        have := h2 i (by simp at hi ⊢; omega)
        omega
theorem minPos_unique {l : List Int} {p : Nat} (hp : p < l.length) (h1 : ∀ i, i < l.length → rd l p ≤ rd l i) (h2 : ∀ i, i < p → rd l p < rd l i) : p = minPos l := by
  obtain ⟨q1, q2, q3⟩ := minPos_spec l (by omega)
  rcases Nat.lt_trichotomy p (minPos l) with h | h | h
  · have := q3 p h
    have := h1 _ q1
    omega
  · exact h
  · have := h2 _ h
    have := q2 p hp
    omega
/-- The two least ones, the first of like ones, become one, behind all others. -/
def hA (L : List HT) : Nat := minPos (L.map HT.wt)
def hB (L : List HT) : Nat := minPos ((L.eraseIdx (hA L)).map HT.wt)
def hstep (L : List HT) : List HT := ((L.eraseIdx (hA L)).eraseIdx (hB L)) ++ [.node (L.getD (hA L) default) ((L.eraseIdx (hA L)).getD (hB L) default)]
theorem minPos_lt (L : List HT) (h : 0 < L.length) : minPos (L.map HT.wt) < L.length := by
  have := (minPos_spec (L.map HT.wt) (by simpa using h)).1
  simpa using this
theorem hA_lt {L : List HT} (h : 0 < L.length) : hA L < L.length := minPos_lt L h
theorem hB_lt {L : List HT} (h : 1 < L.length) : hB L < L.length - 1 := by
  have h1 := minPos_lt (L.eraseIdx (hA L)) (by rw [List.length_eraseIdx_of_lt (hA_lt (by omega))]; omega)
  rw [List.length_eraseIdx_of_lt (hA_lt (by omega))] at h1
  exact h1
theorem hstep_length {L : List HT} (h : 1 < L.length) : (hstep L).length = L.length - 1 := by
  unfold hstep
  have h1 := hA_lt (L := L) (by omega)
  have h2 := hB_lt h
  rw [List.length_append, List.length_eraseIdx_of_lt (by rw [List.length_eraseIdx_of_lt h1]; exact h2), List.length_eraseIdx_of_lt h1]
  simp
  omega
def hrun : Nat → List HT → List HT
  | 0, L => L
  | f + 1, L => if L.length ≤ 1 then L else hrun f (hstep L)
theorem hrun_length : ∀ (f : Nat) (L : List HT), 0 < L.length → L.length ≤ f + 1 → (hrun f L).length = 1
  | 0, L, h0, h => by unfold hrun; omega
  | f + 1, L, h0, h => by
    unfold hrun
    split
    · omega
    · exact hrun_length f _ (by rw [hstep_length (by omega)]; omega) (by rw [hstep_length (by omega)]; omega)
/-- The two that are taken, and the rest. -/
theorem perm_cons_erase {α : Type} : ∀ (L : List α) (p : Nat) (h : p < L.length), L.Perm (L[p] :: L.eraseIdx p)
  | [], _, h => by simp at h
  | x :: L, 0, _ => by simp
  | x :: L, p + 1, h => by
    simp only [List.getElem_cons_succ, List.eraseIdx_cons_succ]
    exact ((perm_cons_erase L p (by simpa using h)).cons x).trans (List.Perm.swap _ _ _)
theorem getD_cons_erase {L : List HT} {p : Nat} (h : p < L.length) : L.Perm (L.getD p default :: L.eraseIdx p) := by
  rw [List.getD_eq_getElem?_getD, List.getElem?_eq_getElem h, Option.getD_some]
  exact perm_cons_erase L p h
theorem hstep_parts {L : List HT} (h : 1 < L.length) : ∃ a b rest, L.Perm (a :: b :: rest) ∧ hstep L = rest ++ [.node a b] ∧ a = L.getD (hA L) default ∧ b = (L.eraseIdx (hA L)).getD (hB L) default ∧ rest = (L.eraseIdx (hA L)).eraseIdx (hB L) ∧
    a.wt ≤ b.wt ∧ (∀ u ∈ rest, b.wt ≤ u.wt) := by
  have h1 := hA_lt (L := L) (by omega)
  have h2 := hB_lt h
  have hl : (L.eraseIdx (hA L)).length = L.length - 1 := List.length_eraseIdx_of_lt h1
  have p1 := getD_cons_erase h1
  have p2 := getD_cons_erase (L := L.eraseIdx (hA L)) (p := hB L) (by omega)
  obtain ⟨_, m1, _⟩ := minPos_spec (L.map HT.wt) (by simp; omega)
  obtain ⟨_, m2, _⟩ := minPos_spec ((L.eraseIdx (hA L)).map HT.wt) (by simp; omega)
  have rdw : ∀ (M : List HT) (j : Nat), j < M.length → rd (M.map HT.wt) j = (M.getD j default).wt := by
    intro M j hj
    rw [rd_getElem (by simpa using hj), List.getD_eq_getElem?_getD, List.getElem?_eq_getElem hj]
    simp
  refine ⟨_, _, _, p1.trans (p2.cons _), rfl, rfl, rfl, rfl, ?_, ?_⟩
  · have hb : (L.eraseIdx (hA L)).getD (hB L) default ∈ L := by
      have h3 : (L.eraseIdx (hA L)).getD (hB L) default ∈ L.eraseIdx (hA L) := by
        rw [List.getD_eq_getElem?_getD, List.getElem?_eq_getElem (by omega), Option.getD_some]
        exact List.getElem_mem _
      exact List.mem_of_mem_eraseIdx h3
    obtain ⟨i, hi, e⟩ := List.getElem_of_mem hb
    have h3 := m1 i (by simpa using hi)
    rw [rdw L i hi, rdw L (minPos (L.map HT.wt)) h1, List.getD_eq_getElem?_getD (l := L) (i := i), List.getElem?_eq_getElem hi, Option.getD_some, e] at h3
    exact h3
  · intro u hu
    have h3 : u ∈ L.eraseIdx (hA L) := List.mem_of_mem_eraseIdx hu
    obtain ⟨i, hi, e⟩ := List.getElem_of_mem h3
    have h4 := m2 i (by simpa using hi)
    rw [rdw _ i hi, rdw _ (minPos ((L.eraseIdx (hA L)).map HT.wt)) (by rw [hl]; exact h2), List.getD_eq_getElem?_getD (i := i), List.getElem?_eq_getElem hi, Option.getD_some, e] at h4
    exact h4
/-- Symbols with a weight, as leaves. -/
def leavesTo (ws : List Int) (k : Nat) : List HT := ((List.range k).filter fun s => decide (0 < rd ws s)).map fun s => .leaf (rd ws s) s
def leavesOf (ws : List Int) : List HT := leavesTo ws ws.length
def rootOf (ws : List Int) : List HT := hrun (leavesOf ws).length (leavesOf ws)
/-- A symbol's depth in a forest; nothing: it is in none. -/
def depIn (L : List HT) (s : Nat) : Option Nat := (L.flatMap HT.dep).lookup s
def onceM (ws : List Int) : List Int := (List.range ws.length).map fun s => match depIn (rootOf ws) s with | some k => (max k 1 : Nat) | none => 0
theorem onceM_length (ws : List Int) : (onceM ws).length = ws.length := by simp [onceM]
def halve (ws : List Int) : List Int := ws.map fun x => (x + 1) / 2
end Go.Proofs.Ytempgkglhgelkaa
