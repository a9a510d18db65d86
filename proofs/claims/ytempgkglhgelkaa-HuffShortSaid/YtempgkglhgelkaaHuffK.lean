/-
  Plain facts: there is a code of the lengths by weights (no program).
-/
import Derived.Test.YtempgkglhgelkaaHuffF
import Derived.Test.YtempgkglhgelkaaHuffQ
namespace Go.Proofs.Ytempgkglhgelkaa

theorem sum_map_perm {α : Type} (f : α → Int) {l l' : List α} (h : l.Perm l') : (l.map f).sum = (l'.map f).sum := by
  induction h with
  | nil => rfl
  | cons x _ ih => simp only [List.map_cons, List.sum_cons, ih]
  | swap x y l => simp only [List.map_cons, List.sum_cons]; omega
  | trans _ _ h1 h2 => exact h1.trans h2
theorem dep_ne : ∀ t : HT, ∃ p, p ∈ t.dep
  | .leaf w s => ⟨(s, 0), by simp [HT.dep]⟩
  | .node l r => by
    obtain ⟨p, hp⟩ := dep_ne l
    exact ⟨(p.1, p.2 + 1), by simp only [HT.dep, List.mem_map, List.mem_append]; exact ⟨p, .inl hp, rfl⟩⟩
theorem kraft : ∀ (t : HT) (d : Nat), (∀ p ∈ t.dep, d + p.2 ≤ 15) → (t.dep.map fun p => (2 : Int) ^ (15 - (d + p.2))).sum = 2 ^ (15 - d)
  | .leaf w s, d, _ => by simp [HT.dep]
  | .node l r, d, h => by
    have hl : ∀ p ∈ l.dep, d + 1 + p.2 ≤ 15 := fun p hp => by
      have := h (p.1, p.2 + 1) (by simp only [HT.dep, List.mem_map, List.mem_append]; exact ⟨p, .inl hp, rfl⟩)
      simp at this
      omega
    have hr : ∀ p ∈ r.dep, d + 1 + p.2 ≤ 15 := fun p hp => by
      have := h (p.1, p.2 + 1) (by simp only [HT.dep, List.mem_map, List.mem_append]; exact ⟨p, .inr hp, rfl⟩)
      simp at this
      omega
    have e1 := kraft l (d + 1) hl
    have e2 := kraft r (d + 1) hr
    obtain ⟨p, hp⟩ := dep_ne l
    have hd := hl p hp
    have e3 : ((HT.node l r).dep.map fun p => (2 : Int) ^ (15 - (d + p.2))) = (l.dep.map fun p => (2 : Int) ^ (15 - (d + 1 + p.2))) ++ (r.dep.map fun p => (2 : Int) ^ (15 - (d + 1 + p.2))) := by
      simp only [HT.dep, List.map_map, List.map_append]
      congr 1
      all_goals
        apply List.map_congr_left
        intro q _
        simp only [Function.comp]
        congr 2
        omega
    rw [e3, List.sum_append, e1, e2, show 15 - d = (15 - (d + 1)) + 1 from by omega, Int.pow_succ]
    omega
theorem onceM_at (ws : List Int) (s : Nat) (hs : s < ws.length) : (0 < rd ws s → ∃ k, depIn (rootOf ws) s = some k ∧ rd (onceM ws) s = (max k 1 : Nat)) ∧ (¬ 0 < rd ws s → rd (onceM ws) s = 0) := by
  refine ⟨fun h => ?_, fun h => ?_⟩
  · cases e : depIn (rootOf ws) s with
    | none =>
      rw [depIn_none, (rootOf_syms ws).mem_iff, mem_posTo] at e
      exact absurd ⟨hs, h⟩ e
    | some k =>
      refine ⟨k, rfl, ?_⟩
      rw [rd_getElem (by rw [onceM_length]; exact hs)]
      simp [onceM, e]
  · have e : depIn (rootOf ws) s = none := by
      rw [depIn_none, (rootOf_syms ws).mem_iff, mem_posTo]
      exact fun h2 => h h2.2
    rw [rd_getElem (by rw [onceM_length]; exact hs)]
    simp [onceM, e]
theorem onceM_pos (ws : List Int) (s : Nat) (hs : s < ws.length) : 0 ≤ rd (onceM ws) s ∧ (0 < rd (onceM ws) s ↔ 0 < rd ws s) := by
  obtain ⟨h1, h2⟩ := onceM_at ws s hs
  by_cases h : 0 < rd ws s
  · obtain ⟨k, _, e⟩ := h1 h
    rw [e]
    exact ⟨by omega, by omega⟩
  · rw [h2 h]
    exact ⟨by omega, by omega⟩
theorem sumR_pos (ws xs : List Int) (hl : xs.length = ws.length) (hp : ∀ s, s < ws.length → 0 ≤ rd xs s ∧ rd xs s ≤ 15 ∧ (0 < rd xs s ↔ 0 < rd ws s)) : ∀ s, s ≤ ws.length →
    sumR xs s = ((posTo ws s).map fun j => (2 : Int) ^ (15 - (rd xs j).toNat)).sum ∧ manyR xs s = ((posTo ws s).length : Nat)
  | 0, _ => by
    rw [sumR_start, manyR_start]
    simp [posTo]
  | s + 1, h => by
    obtain ⟨i1, i2⟩ := sumR_pos ws xs hl hp s (by omega)
    obtain ⟨q1, q2, q3⟩ := hp s (by omega)
    by_cases e : 0 < rd ws s
    · have e' := q3.2 e
      obtain ⟨k, hk⟩ : ∃ k : Nat, rd xs s = k := ⟨(rd xs s).toNat, by omega⟩
      rw [posTo_hit e, sumR_next xs s k (by omega) hk (by omega) (by omega), manyR_next xs s k (by omega) hk (by omega) (by omega), i1, i2, List.map_append, List.sum_append, List.length_append]
      simp [hk]
    · have e' : rd xs s = 0 := by
        have : ¬ 0 < rd xs s := fun h => e (q3.1 h)
        omega
      rw [posTo_miss e, sumR_zero xs s (by omega) e', manyR_zero xs s (by omega) e']
      exact ⟨i1, i2⟩
theorem befores_one (ws xs : List Int) (hl : xs.length = ws.length) (hp : ∀ s, s < ws.length → 0 ≤ rd xs s ∧ (0 < rd ws s → rd xs s = 1) ∧ (¬ 0 < rd ws s → rd xs s = 0)) : ∀ s, s ≤ ws.length → befores xs s 1 = ((posTo ws s).length : Nat)
  | 0, _ => by
    unfold befores
    rw [before_zero]
    simp [posTo]
  | s + 1, h => by
    have i1 := befores_one ws xs hl hp s (by omega)
    obtain ⟨q1, q2, q3⟩ := hp s (by omega)
    by_cases e : 0 < rd ws s
    · rw [posTo_hit e, befores_next xs s 1 (by omega) (q2 e), i1, List.length_append]
      simp
    · rw [posTo_miss e, befores_next xs s 0 (by omega) (q3 e), i1]
      simp
/-- There is a code of such lengths. -/
theorem rightB_once (ws : List Int) (hpos : 0 < (posTo ws ws.length).length) (h15 : ∀ x ∈ onceM ws, x ≤ 15) : rightB (onceM ws) = true := by
  rw [← rightR_eq]
  have hlen := onceM_length ws
  have hp : ∀ s, s < ws.length → 0 ≤ rd (onceM ws) s ∧ rd (onceM ws) s ≤ 15 ∧ (0 < rd (onceM ws) s ↔ 0 < rd ws s) := fun s hs => by
    obtain ⟨q1, q2⟩ := onceM_pos ws s hs
    refine ⟨q1, ?_, q2⟩
    rw [rd_getElem (by omega)]
    exact h15 _ (List.getElem_mem _)
  have hok : lensOk (onceM ws) = true := by
    unfold lensOk
    rw [List.all_eq_true]
    intro x hx
    obtain ⟨i, hi, rfl⟩ := List.getElem_of_mem hx
    have := hp i (by omega)
    rw [rd_getElem hi] at this
    simp
    omega
  obtain ⟨s1, s2⟩ := sumR_pos ws (onceM ws) hlen hp ws.length (Nat.le_refl _)
  have hll : 0 < (leavesOf ws).length := by rw [leavesOf_length]; exact hpos
  obtain ⟨root, hroot⟩ : ∃ r, rootOf ws = [r] := List.length_eq_one_iff.1 (hrun_length _ _ hll (by omega))
  have hsy : root.syms.Perm (posTo ws ws.length) := by
    have := rootOf_syms ws
    rw [hroot] at this
    simpa using this
  have hval : ∀ p ∈ root.dep, rd (onceM ws) p.1 = (max p.2 1 : Nat) := fun p hp' => by
    have hm : p.1 ∈ posTo ws ws.length := by
      rw [← hsy.mem_iff, ← HT.dep_syms]
      exact List.mem_map.2 ⟨p, hp', rfl⟩
    obtain ⟨h1, h2⟩ := mem_posTo.1 hm
    obtain ⟨k, hk, e⟩ := (onceM_at ws p.1 h1).1 h2
    have h3 : depIn (rootOf ws) p.1 = some p.2 := (depIn_mem (rootOf_nodup ws) _ _).2 (by rw [hroot]; simpa using hp')
    rw [h3] at hk
    cases hk
    exact e
  unfold rightR
  rw [hok, hlen, s1, s2, Bool.true_and, Bool.or_eq_true]
  cases hr : root with
  | leaf w s =>
    right
    have h1 : (posTo ws ws.length).length = 1 := by rw [← hsy.length_eq, hr]; rfl
    have hb := befores_one ws (onceM ws) hlen (fun s' hs' => ⟨(hp s' hs').1, fun h => by
      have hm : s' ∈ root.syms := hsy.mem_iff.2 (mem_posTo.2 ⟨hs', h⟩)
      rw [hr] at hm
      simp [HT.syms] at hm
      subst hm
      have := hval (s', 0) (by rw [hr]; simp [HT.dep])
      simpa using this, (onceM_at ws s' hs').2⟩) ws.length (Nat.le_refl _)
    rw [hb, h1]
    simp
  | node l r =>
    left
    have hk1 : ∀ p ∈ root.dep, 1 ≤ p.2 := fun p hp' => by
      rw [hr] at hp'
      simp only [HT.dep, List.mem_map] at hp'
      obtain ⟨q, _, rfl⟩ := hp'
      simp
    have hk15 : ∀ p ∈ root.dep, 0 + p.2 ≤ 15 := fun p hp' => by
      have h1 := hval p hp'
      have hm : p.1 ∈ posTo ws ws.length := by
        rw [← hsy.mem_iff, ← HT.dep_syms]
        exact List.mem_map.2 ⟨p, hp', rfl⟩
      have h2 := (hp p.1 (mem_posTo.1 hm).1).2.1
      omega
    have e1 : ((posTo ws ws.length).map fun j => (2 : Int) ^ (15 - (rd (onceM ws) j).toNat)).sum = (root.dep.map fun p => (2 : Int) ^ (15 - (0 + p.2))).sum := by
      rw [← sum_map_perm _ hsy, ← HT.dep_syms, List.map_map]
      congr 1
      apply List.map_congr_left
      intro p hp'
      simp only [Function.comp]
      rw [hval p hp']
      have := hk1 p hp'
      congr 2
      omega
    rw [e1, kraft root 0 hk15]
    decide
/-- What the halving comes to. -/
theorem lensM_is (m : Nat) (hm : 1 ≤ m) : ∀ (f : Nat) (ws : List Int), (∀ x ∈ ws, 0 ≤ x) → (posTo ws ws.length).length ≤ 2 ^ m → ws.sum ≤ f →
    ∃ wt : List Int, lensM f m ws = onceM wt ∧ wt.length = ws.length ∧ (∀ s, 0 < rd wt s ↔ 0 < rd ws s) ∧ ∀ x ∈ onceM wt, x ≤ (m : Int)
  | 0, ws, h0, hp, hs => by
    refine ⟨ws, rfl, rfl, fun s => Iff.rfl, fun x hx => ?_⟩
    by_cases hall : (onceM ws).all (fun x => decide (x ≤ (m : Int))) = true
    · have := List.all_eq_true.1 hall x hx
      simpa using this
    · have h1 := halve_less h0 hm hp hall
      have h2 := (sum_halve ws h0).1
      omega
  | f + 1, ws, h0, hp, hs => by
    unfold lensM
    split
    · rename_i hall
      exact ⟨ws, rfl, rfl, fun s => Iff.rfl, fun x hx => by
        have := List.all_eq_true.1 hall x hx
        simpa using this⟩
    · rename_i hall
      have h1 := halve_less h0 hm hp hall
      obtain ⟨wt, e1, e2, e3, e4⟩ := lensM_is m hm f (halve ws) (halve_nonneg h0) (by rw [halve_length, posTo_halve]; exact hp) (by omega)
      refine ⟨wt, e1, by rw [e2, halve_length], fun s => (e3 s).trans ?_, e4⟩
      rw [rd_halve]
      omega
theorem lensOf_is {m : Nat} {ws : List Int} (hm : 1 ≤ m) (h0 : ∀ x ∈ ws, 0 ≤ x) (hp : (posTo ws ws.length).length ≤ 2 ^ m) :
    ∃ wt : List Int, lensOf m ws = onceM wt ∧ wt.length = ws.length ∧ (∀ s, 0 < rd wt s ↔ 0 < rd ws s) ∧ ∀ x ∈ onceM wt, x ≤ (m : Int) :=
  lensM_is m hm _ ws h0 hp (by have := sum_nonneg' ws h0; omega)
theorem lensOf_once {m : Nat} {ws : List Int} (h : ∀ x ∈ onceM ws, x ≤ (m : Int)) : lensOf m ws = onceM ws := by
  unfold lensOf
  cases ws.sum.toNat with
  | zero => rfl
  | succ f =>
    unfold lensM
    rw [if_pos (by rw [List.all_eq_true]; intro x hx; simpa using h x hx)]
theorem posTo_same {ws wt : List Int} (h : ∀ s, 0 < rd wt s ↔ 0 < rd ws s) (k : Nat) : posTo wt k = posTo ws k := by
  unfold posTo
  congr 1
  funext s
  congr 1
  exact propext (h s)
end Go.Proofs.Ytempgkglhgelkaa
