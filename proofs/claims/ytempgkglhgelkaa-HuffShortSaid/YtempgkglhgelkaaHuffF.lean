/-
  Plain facts: little weight makes no great depth; who weighs more is no deeper (no program).
-/
import Derived.Test.YtempgkglhgelkaaHuffZP
namespace Go.Proofs.Ytempgkglhgelkaa

/-! ### heights and weights -/
def HT.kids : HT → List HT
  | .leaf _ _ => []
  | .node l r => [l, r]
/-- Least weight of a tree of that height. -/
def hb : Nat → Int
  | 0 => 1
  | 1 => 2
  | h + 2 => hb (h + 1) + hb h
theorem hb_pos : ∀ h, 1 ≤ hb h
  | 0 => by decide
  | 1 => by decide
  | h + 2 => by
    have h1 := hb_pos (h + 1)
    have h2 := hb_pos h
    simp only [hb]
    omega
def GoodT : HT → Prop
  | .leaf w _ => 1 ≤ w
  | .node l r => (∀ c ∈ l.kids, c.wt ≤ r.wt) ∧ (∀ c ∈ r.kids, c.wt ≤ l.wt) ∧ GoodT l ∧ GoodT r
theorem GoodT.pos : ∀ {t : HT}, GoodT t → 1 ≤ t.wt
  | .leaf _ _, h => h
  | .node l r, ⟨_, _, h1, h2⟩ => by
    have := h1.pos
    have := h2.pos
    show 1 ≤ l.wt + r.wt
    omega
theorem GoodT.kid : ∀ {t : HT}, GoodT t → ∀ c ∈ t.kids, GoodT c
  | .leaf _ _, _, c, hc => by simp [HT.kids] at hc
  | .node l r, ⟨_, _, h1, h2⟩, c, hc => by
    simp [HT.kids] at hc
    rcases hc with rfl | rfl
    · exact h1
    · exact h2
def deepAt (t : HT) (h : Nat) : Prop := ∃ p ∈ t.dep, h ≤ p.2
theorem deepAt_node {l r : HT} {h : Nat} (hd : deepAt (.node l r) (h + 1)) : deepAt l h ∨ deepAt r h := by
  obtain ⟨p, hp, hh⟩ := hd
  simp only [HT.dep, List.mem_map, List.mem_append] at hp
  obtain ⟨q, hq, rfl⟩ := hp
  simp at hh
  rcases hq with hq | hq
  · exact .inl ⟨q, hq, hh⟩
  · exact .inr ⟨q, hq, hh⟩
theorem deepAt_leaf {w : Int} {s h : Nat} (hd : deepAt (.leaf w s) h) : h = 0 := by
  obtain ⟨p, hp, hh⟩ := hd
  simp [HT.dep] at hp
  subst hp
  simpa using hh
theorem deepAt_kid {t : HT} {h : Nat} (hd : deepAt t (h + 1)) : ∃ c ∈ t.kids, deepAt c h := by
  cases t with
  | leaf w s => have := deepAt_leaf hd; omega
  | node l r =>
    rcases deepAt_node hd with h1 | h1
    · exact ⟨l, by simp [HT.kids], h1⟩
    · exact ⟨r, by simp [HT.kids], h1⟩
theorem GoodT.height : ∀ (h : Nat) {t : HT}, GoodT t → deepAt t h → hb h ≤ t.wt
  | 0, t, hg, _ => by have := hg.pos; simp only [hb]; exact this
  | 1, t, hg, hd => by
    cases t with
    | leaf w s => have := deepAt_leaf hd; omega
    | node l r =>
      have := hg.2.2.1.pos
      have := hg.2.2.2.pos
      show 2 ≤ l.wt + r.wt
      omega
  | h + 2, t, hg, hd => by
    cases t with
    | leaf w s => have := deepAt_leaf hd; omega
    | node l r =>
      show hb (h + 1) + hb h ≤ l.wt + r.wt
      rcases deepAt_node hd with h1 | h1
      · have q1 := GoodT.height (h + 1) hg.2.2.1 h1
        obtain ⟨c, hc, hdc⟩ := deepAt_kid h1
        have q2 := GoodT.height h (hg.2.2.1.kid c hc) hdc
        have q3 := hg.1 c hc
        omega
      · have q1 := GoodT.height (h + 1) hg.2.2.2 h1
        obtain ⟨c, hc, hdc⟩ := deepAt_kid h1
        have q2 := GoodT.height h (hg.2.2.2.kid c hc) hdc
        have q3 := hg.2.1 c hc
        omega
/-- Of a forest: each tree good, no tree's child above another tree. -/
def GoodF (L : List HT) : Prop := (∀ t ∈ L, GoodT t) ∧ ∀ t ∈ L, ∀ c ∈ t.kids, ∀ u ∈ L, c.wt ≤ u.wt
theorem GoodF.step {L : List HT} (h1 : 1 < L.length) (h : GoodF L) : GoodF (hstep L) := by
  obtain ⟨a, b, rest, hp, he, _, _, _, hab, hr⟩ := hstep_parts h1
  rw [he]
  have hin : ∀ x, x ∈ L ↔ x = a ∨ x = b ∨ x ∈ rest := fun x => by rw [hp.mem_iff]; simp
  have ha := (hin a).2 (.inl rfl)
  have hb' := (hin b).2 (.inr (.inl rfl))
  have ga := h.1 a ha
  have gb := h.1 b hb'
  have pa := ga.pos
  have pb := gb.pos
  have hmem : ∀ x, x ∈ rest ++ [HT.node a b] ↔ x ∈ rest ∨ x = .node a b := fun x => by simp
  refine ⟨fun t ht => ?_, fun t ht c hc u hu => ?_⟩
  · rcases (hmem t).1 ht with ht | rfl
    · exact h.1 t ((hin t).2 (.inr (.inr ht)))
    · exact ⟨fun c hc => h.2 a ha c hc b hb', fun c hc => h.2 b hb' c hc a ha, ga, gb⟩
  · have wn : (HT.node a b).wt = a.wt + b.wt := rfl
    rcases (hmem t).1 ht with ht | rfl
    · have ht' := (hin t).2 (.inr (.inr ht))
      rcases (hmem u).1 hu with hu | rfl
      · exact h.2 t ht' c hc u ((hin u).2 (.inr (.inr hu)))
      · have := h.2 t ht' c hc a ha
        omega
    · simp [HT.kids] at hc
      rcases (hmem u).1 hu with hu | rfl
      · have := hr u hu
        rcases hc with rfl | rfl <;> omega
      · rcases hc with rfl | rfl <;> omega
theorem GoodF.leaves (ws : List Int) (k : Nat) : GoodF (leavesTo ws k) := by
  refine ⟨fun t ht => ?_, fun t ht c hc => ?_⟩
  · obtain ⟨s, _, h, rfl⟩ := mem_leavesTo ht
    show 1 ≤ rd ws s
    omega
  · obtain ⟨s, _, h, rfl⟩ := mem_leavesTo ht
    simp [HT.kids] at hc
theorem GoodF.root (ws : List Int) : GoodF (rootOf ws) := hrun_inv (P := GoodF) (fun _ h1 h => h.step h1) _ _ (GoodF.leaves ws _)
/-- Little weight in all: no length above 15. -/
theorem onceM_15 (ws : List Int) (h0 : ∀ x ∈ ws, 0 ≤ x) (hs : ws.sum < 2584) : ∀ x ∈ onceM ws, x ≤ 15 := by
  intro x hx
  unfold onceM at hx
  obtain ⟨s, hs', rfl⟩ := List.mem_map.1 hx
  cases e : depIn (rootOf ws) s with
  | none => simp
  | some k =>
    simp only
    have hk := (depIn_mem (rootOf_nodup ws) s k).1 e
    obtain ⟨t, ht, hkt⟩ := List.mem_flatMap.1 hk
    rcases Nat.lt_or_ge 15 k with h | h
    · exfalso
      have hg := (GoodF.root ws).1 t ht
      have h1 := hg.height 16 ⟨(s, k), hkt, h⟩
      have h2 : sumW (rootOf ws) = ws.sum := by
        have := sum_leaves_le ws h0 ws.length (Nat.le_refl _)
        rw [List.take_length] at this
        exact (sumW_run _ _).trans this
      have h3 : t.wt ≤ sumW (rootOf ws) := by
        obtain ⟨a, b, hab⟩ := List.append_of_mem ht
        rw [hab]
        have g1 := sumW_ge (L := a) (fun u hu => by have := ((GoodF.root ws).1 u (by rw [hab]; simp [hu])).pos; omega)
        have g2 := sumW_ge (L := b) (fun u hu => by have := ((GoodF.root ws).1 u (by rw [hab]; simp [hu])).pos; omega)
        unfold sumW at *
        simp only [List.map_append, List.map_cons, List.sum_append, List.sum_cons]
        omega
      have h4 : hb 16 = 2584 := by decide
      omega
    · omega
/-- Who weighs more has no longer one. -/
theorem onceM_mono (ws : List Int) (i k : Nat) (hi : i < ws.length) (hk : k < ws.length) (h0 : 0 < rd ws k) (hik : rd ws k < rd ws i) : rd (onceM ws) i ≤ rd (onceM ws) k := by
  have hne : 0 < (leavesOf ws).length := by
    rw [leavesOf_length]
    exact List.length_pos_of_mem (mem_posTo.2 ⟨hk, h0⟩)
  have hmap : ((List.range (leavesOf ws).length).map fun j => (j, (leavesOf ws).getD j default)).map Prod.snd = leavesOf ws := by
    apply List.ext_getElem (by simp)
    intro j q1 q2
    simp [List.getElem?_eq_getElem q2]
  have hT : Tags ((List.range (leavesOf ws).length).map fun j => (j, (leavesOf ws).getD j default)) (leavesOf ws).length := by
    refine ⟨?_, fun x hx => ?_⟩
    · rw [List.pairwise_map]
      exact List.pairwise_lt_range
    · obtain ⟨j, hj, rfl⟩ := List.mem_map.1 hx
      exact List.mem_range.1 hj
  have hleaf : ∀ s, s < ws.length → 0 < rd ws s → ∃ j, j < (leavesOf ws).length ∧ (leavesOf ws).getD j default = .leaf (rd ws s) s := by
    intro s hs h
    have hm : HT.leaf (rd ws s) s ∈ leavesOf ws := by
      unfold leavesOf leavesTo
      exact List.mem_map.2 ⟨s, by simp [hs, h], rfl⟩
    obtain ⟨j, hj, e⟩ := List.getElem_of_mem hm
    exact ⟨j, hj, by rw [List.getD_eq_getElem?_getD, List.getElem?_eq_getElem hj, e]; rfl⟩
  obtain ⟨root, hroot, D, hd, hP, _⟩ := mono_run (leavesOf ws).length _ _ hT (by simpa using hne) (by simp) (fun x hx => by
    obtain ⟨j, hj, rfl⟩ := List.mem_map.1 hx
    have hj' := List.mem_range.1 hj
    have hm : (leavesOf ws).getD j default ∈ leavesTo ws ws.length := by
      rw [List.getD_eq_getElem?_getD, List.getElem?_eq_getElem hj']
      exact List.getElem_mem _
    obtain ⟨s, _, h, e⟩ := mem_leavesTo hm
    rw [e]
    show 0 ≤ rd ws s
    omega)
  rw [hmap] at hroot
  have hR : rootOf ws = [root] := hroot
  have val : ∀ s j, s < ws.length → j < (leavesOf ws).length → (leavesOf ws).getD j default = .leaf (rd ws s) s → rd (onceM ws) s = (max (D j) 1 : Nat) := by
    intro s j hs hj e
    have h1 := hd (j, (leavesOf ws).getD j default) (List.mem_map.2 ⟨j, List.mem_range.2 hj, rfl⟩) s 0 (by rw [e]; simp [HT.dep])
    rw [Nat.zero_add] at h1
    have h2 : depIn (rootOf ws) s = some (D j) := (depIn_mem (rootOf_nodup ws) s _).2 (by rw [hR]; simpa using h1)
    rw [rd_getElem (by rw [onceM_length]; exact hs)]
    simp [onceM, h2]
  obtain ⟨ji, hji, ei⟩ := hleaf i hi (by omega)
  obtain ⟨jk, hjk, ek⟩ := hleaf k hk h0
  rw [val i ji hi hji ei, val k jk hk hjk ek]
  have := hP (jk, (leavesOf ws).getD jk default) (List.mem_map.2 ⟨jk, List.mem_range.2 hjk, rfl⟩) (ji, (leavesOf ws).getD ji default) (List.mem_map.2 ⟨ji, List.mem_range.2 hji, rfl⟩) (by
    rw [ei, ek]
    exact .inl hik)
  simp only at this
  omega
end Go.Proofs.Ytempgkglhgelkaa
