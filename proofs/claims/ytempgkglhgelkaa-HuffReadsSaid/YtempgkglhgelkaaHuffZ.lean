/-
  Plain facts: the loop that joins the two least nodes (no program).
-/
import Derived.Test.YtempgkglhgelkaaHuffY
namespace Go.Proofs.Ytempgkglhgelkaa

theorem ltF'_ord (flat : List Int) : Ord (ltF' flat) := by
  refine ⟨fun x y z h k => ?_, fun x y h => ?_⟩
  · simp only [ltF', Bool.or_eq_false_iff, Bool.and_eq_false_iff, decide_eq_false_iff_not, beq_eq_false_iff_ne] at *
    omega
  · simp only [ltF', Bool.or_eq_false_iff, Bool.and_eq_false_iff, decide_eq_false_iff_not, beq_eq_false_iff_ne, Bool.or_eq_true, Bool.and_eq_true, decide_eq_true_eq, beq_iff_eq] at *
    omega
structure MInv (ws : List Int) (f : Nat) (L : List (Nat × HT)) (N : Nat) (flat sy wait : List Int) : Prop where
  pos : 0 < L.length
  fuel : L.length ≤ f + 1
  run : hrun f (L.map Prod.snd) = rootOf ws
  tags : Tags L N
  ok : FlatOk flat sy L
  len : flat.length = N * 4
  perm : wait.Perm (L.map fun x => (x.1 : Int))
  heap : heapOn (ltF' flat) wait 0 wait.length
  cnt : N + L.length ≤ 2 * ws.length
  wts : ∀ x ∈ L, 0 ≤ x.2.wt
  sum : sumW (L.map Prod.snd) ≤ ws.sum
theorem MInv.wlen {ws : List Int} {f N : Nat} {L : List (Nat × HT)} {flat sy wait : List Int} (h : MInv ws f L N flat sy wait) : wait.length = L.length := by rw [h.perm.length_eq, List.length_map]
theorem mem_tags {L : List (Nat × HT)} {N : Nat} {wait : List Int} (hT : ∀ x ∈ L, x.1 < N) (hp : wait.Perm (L.map fun x => (x.1 : Int))) : ∀ j, j < wait.length → 0 ≤ rd wait j ∧ rd wait j < N := by
  intro j hj
  have h1 : rd wait j ∈ L.map fun x => (x.1 : Int) := by
    rw [← hp.mem_iff, rd_getElem hj]
    exact List.getElem_mem _
  obtain ⟨x, hx, e⟩ := List.mem_map.1 h1
  have := hT x hx
  omega
theorem MInv.rng {ws : List Int} {f N : Nat} {L : List (Nat × HT)} {flat sy wait : List Int} (h : MInv ws f L N flat sy wait) : ∀ j, j < wait.length → 0 ≤ rd wait j ∧ rd wait j < N := mem_tags h.tags.2 h.perm
theorem heapOn_more {flat r : List Int} {wait : List Int} {n N : Nat} (hl : flat.length = N * 4) (hr : ∀ j, j < wait.length → 0 ≤ rd wait j ∧ rd wait j < N) (hn : n ≤ wait.length) (h : heapOn (ltF' flat) wait 0 n) : heapOn (ltF' (flat ++ r)) wait 0 n := by
  intro k k0 kn ki
  have h1 := h k k0 kn ki
  have q1 := hr k (by omega)
  have q2 := hr ((k - 1) / 2) (by omega)
  unfold ltF' at h1 ⊢
  rw [rd_append_left (by omega), rd_append_left (by omega), rd_append_left (by omega), rd_append_left (by omega)]
  exact h1
theorem rd_append_at {flat r : List Int} {n j : Nat} {v : Int} (hl : flat.length = n) (hv : r[j]? = some v) : rd (flat ++ r) (n + j) = v := by
  unfold rd
  rw [List.getD_eq_getElem?_getD, List.getElem?_append_right (by omega), hl, Nat.add_sub_cancel_left, hv]
  rfl
theorem sumW_ge {L : List HT} (h : ∀ t ∈ L, 0 ≤ t.wt) : 0 ≤ sumW L := by
  induction L with
  | nil => simp [sumW]
  | cons t L ih =>
    have h1 := ih (fun u hu => h u (by simp [hu]))
    have h2 := h t (by simp)
    unfold sumW at h1 ⊢
    simp only [List.map_cons, List.sum_cons]
    omega
theorem MInv.step {ws : List Int} {f N : Nat} {L : List (Nat × HT)} {flat sy wait : List Int} (h : MInv ws f L N flat sy wait) (h1 : 1 < wait.length) :
    ∃ a b : Nat, ∃ (f' : Nat) (L' : List (Nat × HT)) (wait1 wait2 : List Int), f = f' + 1 ∧ wait1 = (popM (ltF' flat) wait).take (wait.length - 1) ∧ rd (popM (ltF' flat) wait) (wait.length - 1) = a ∧ wait1.length = wait.length - 1 ∧
      wait2 = (popM (ltF' flat) wait1).take (wait1.length - 1) ∧ rd (popM (ltF' flat) wait1) (wait1.length - 1) = b ∧ wait2.length + 2 = wait.length ∧ a < N ∧ b < N ∧ (∀ j, j < wait1.length → 0 ≤ rd wait1 j ∧ rd wait1 j < N) ∧ (∀ j, j < wait2.length → 0 ≤ rd wait2 j ∧ rd wait2 j < N) ∧
      0 ≤ rd flat (a * 4) + rd flat (b * 4) ∧ 0 ≤ rd flat (a * 4) ∧ 0 ≤ rd flat (b * 4) ∧ rd flat (a * 4) + rd flat (b * 4) ≤ ws.sum ∧ L'.length + 1 = L.length ∧
      MInv ws f' L' (N + 1) (flat ++ [rd flat (a * 4) + rd flat (b * 4), (N : Int), (a : Int), (b : Int)]) sy (pushM (ltF' (flat ++ [rd flat (a * 4) + rd flat (b * 4), (N : Int), (a : Int), (b : Int)])) wait2 N) := by
  have hwl := h.wlen
  obtain ⟨a, b, rest, hp, he, hab, hbr, hT'⟩ := tstep_parts h.tags (by omega)
  have O := ltF'_ord flat
  have hin : ∀ x, x ∈ L ↔ x = a ∨ x = b ∨ x ∈ rest := fun x => by rw [hp.mem_iff]; simp
  obtain ⟨g1, g2, g3⟩ := pop_least O h.ok hp (fun u hu => by
    rcases List.mem_cons.1 hu with rfl | hu
    · exact hab
    · exact ltT_trans hab (hbr u hu)) h.perm h.heap
  have hok1 : FlatOk flat sy (b :: rest) := h.ok.perm (fun x hx => (hin x).2 (by rcases List.mem_cons.1 hx with hx | hx <;> simp [hx]))
  obtain ⟨w1, hw1⟩ : ∃ w1, w1 = (popM (ltF' flat) wait).take (wait.length - 1) := ⟨_, rfl⟩
  rw [← hw1] at g2 g3
  obtain ⟨k1, k2, k3⟩ := pop_least O hok1 (List.Perm.refl _) hbr g2 g3
  obtain ⟨w2, hw2⟩ : ∃ w2, w2 = (popM (ltF' flat) w1).take (w1.length - 1) := ⟨_, rfl⟩
  rw [← hw2] at k2 k3
  have hrl : rest.length + 2 = L.length := by rw [hp.length_eq]; simp
  have hw1l : w1.length = wait.length - 1 := by rw [g2.length_eq, hwl]; simp; omega
  have hw2l : w2.length + 2 = wait.length := by rw [k2.length_eq, hwl]; simp; omega
  have haN := h.tags.2 a ((hin a).2 (.inl rfl))
  have hbN := h.tags.2 b ((hin b).2 (.inr (.inl rfl)))
  have oka := h.ok a ((hin a).2 (.inl rfl))
  have okb := h.ok b ((hin b).2 (.inr (.inl rfl)))
  have ea := oka.1.wt
  have eb := okb.1.wt
  have wa := h.wts a ((hin a).2 (.inl rfl))
  have wb := h.wts b ((hin b).2 (.inr (.inl rfl)))
  have hr1 : ∀ j, j < w1.length → 0 ≤ rd w1 j ∧ rd w1 j < N := mem_tags (L := b :: rest) (fun x hx => h.tags.2 x ((hin x).2 (by rcases List.mem_cons.1 hx with hx | hx <;> simp [hx]))) g2
  have hr2 : ∀ j, j < w2.length → 0 ≤ rd w2 j ∧ rd w2 j < N := mem_tags (L := rest) (fun x hx => h.tags.2 x ((hin x).2 (by simp [hx]))) k2
  have hsum : a.2.wt + b.2.wt + sumW (rest.map Prod.snd) = sumW (L.map Prod.snd) := by
    rw [sumW_perm (hp.map Prod.snd)]
    simp only [sumW, List.map_cons, List.sum_cons]
    omega
  have hrest0 := sumW_ge (L := rest.map Prod.snd) (fun t ht => by
    obtain ⟨x, hx, rfl⟩ := List.mem_map.1 ht
    exact h.wts x ((hin x).2 (by simp [hx])))
  have hs := h.sum
  obtain ⟨f', rfl⟩ : ∃ f', f = f' + 1 := ⟨f - 1, by have := h.fuel; omega⟩
  have hlen := h.len
  have hLl : (tstep L N).length + 1 = L.length := by rw [he]; simp; omega
  refine ⟨a.1, b.1, f', tstep L N, w1, w2, rfl, hw1, g1, hw1l, hw2, k1, hw2l, haN, hbN, hr1, hr2, by omega, by omega, by omega, by omega, hLl, ?_⟩
  have hmemT : ∀ x, x ∈ tstep L N ↔ x ∈ rest ∨ x = (N, .node a.2 b.2) := fun x => by rw [he]; simp
  have rdN : ∀ (j : Nat) (v : Int), ([rd flat (a.1 * 4) + rd flat (b.1 * 4), (N : Int), (a.1 : Int), (b.1 : Int)] : List Int)[j]? = some v → rd (flat ++ [rd flat (a.1 * 4) + rd flat (b.1 * 4), (N : Int), (a.1 : Int), (b.1 : Int)]) (N * 4 + j) = v := fun j v hv => rd_append_at hlen hv
  obtain ⟨P1, P2⟩ := pushM_spec (ltF'_ord (flat ++ [rd flat (a.1 * 4) + rd flat (b.1 * 4), (N : Int), (a.1 : Int), (b.1 : Int)])) (l := w2) (N : Int) (heapOn_more hlen hr2 (Nat.le_refl _) k3)
  refine ⟨by omega, by have := h.fuel; omega, ?_, hT', ?_, by rw [List.length_append]; simp; omega, ?_, ?_, by have := h.cnt; omega, ?_, ?_⟩
  · have h9 := h.run
    unfold hrun at h9
    rw [if_neg (by rw [List.length_map]; omega)] at h9
    rw [tstep_map]
    exact h9
  · intro x hx
    rcases (hmemT x).1 hx with hx | rfl
    · exact (h.ok.more _) x ((hin x).2 (by simp [hx]))
    · refine ⟨⟨a.1, b.1, ?_, ?_, ?_, haN, hbN, oka.1.more _ (by omega), okb.1.more _ (by omega)⟩, rdN 1 _ rfl, by rw [List.length_append]; simp; omega⟩
      · have := rdN 0 _ rfl
        rw [Nat.add_zero] at this
        rw [this, ea, eb]
      · exact rdN 2 _ rfl
      · exact rdN 3 _ rfl
  · rw [he]
    refine P2.trans ?_
    rw [List.map_append]
    exact k2.append (List.Perm.refl _)
  · rw [show (pushM (ltF' (flat ++ [rd flat (a.1 * 4) + rd flat (b.1 * 4), (N : Int), (a.1 : Int), (b.1 : Int)])) w2 N).length = w2.length + 1 from by rw [P2.length_eq]; simp]
    exact P1
  · intro x hx
    rcases (hmemT x).1 hx with hx | rfl
    · exact h.wts x ((hin x).2 (by simp [hx]))
    · show 0 ≤ a.2.wt + b.2.wt
      omega
  · rw [he, List.map_append]
    have : sumW (rest.map Prod.snd ++ [(N, HT.node a.2 b.2)].map Prod.snd) = sumW (rest.map Prod.snd) + (a.2.wt + b.2.wt) := by
      simp [sumW, List.sum_append, HT.wt]
    rw [this]
    omega
/-- The leaves, as the first loop lays them. -/
structure LInv (ws : List Int) (k : Nat) (flat sy wait : List Int) : Prop where
  syE : sy = (posTo ws k).map fun (s : Nat) => (s : Int)
  wtE : wait = (List.range sy.length).map fun (j : Nat) => (j : Int)
  len : flat.length = sy.length * 4
  cell : ∀ j, j < sy.length → rd flat (j * 4) = rd ws (rd sy j).toNat ∧ rd flat (j * 4 + 1) = (j : Int) ∧ rd flat (j * 4 + 2) = -1
theorem LInv.start (ws : List Int) : LInv ws 0 [] [] [] := ⟨rfl, rfl, rfl, fun j hj => by simp at hj⟩
theorem posTo_hit {ws : List Int} {k : Nat} (h : 0 < rd ws k) : posTo ws (k + 1) = posTo ws k ++ [k] := by simp [posTo, List.range_succ, List.filter_append, h]
theorem posTo_miss {ws : List Int} {k : Nat} (h : ¬ 0 < rd ws k) : posTo ws (k + 1) = posTo ws k := by simp [posTo, List.range_succ, List.filter_append, h]
theorem LInv.miss {ws : List Int} {k : Nat} {flat sy wait : List Int} (h : LInv ws k flat sy wait) (hx : ¬ 0 < rd ws k) : LInv ws (k + 1) flat sy wait := ⟨by rw [posTo_miss hx]; exact h.syE, h.wtE, h.len, h.cell⟩
theorem LInv.hit {ws : List Int} {k : Nat} {flat sy wait : List Int} (h : LInv ws k flat sy wait) (hx : 0 < rd ws k) : LInv ws (k + 1) (flat ++ [rd ws k, (sy.length : Int), -1, -1]) (sy ++ [(k : Int)]) (wait ++ [(sy.length : Int)]) := by
  refine ⟨?_, ?_, ?_, ?_⟩
  · rw [posTo_hit hx, List.map_append, ← h.syE]
    rfl
  · rw [h.wtE, List.length_append]
    simp [List.range_succ]
  · simp [h.len]
    omega
  · intro j hj
    have hl := h.len
    rcases Nat.lt_or_ge j sy.length with hlt | hge
    · rw [rd_append_left (l := sy) hlt, rd_append_left (by omega), rd_append_left (by omega), rd_append_left (by omega)]
      exact h.cell j hlt
    · have e : j = sy.length := by simp at hj; omega
      subst e
      have rdN : ∀ (j : Nat) (v : Int), ([rd ws k, (sy.length : Int), -1, -1] : List Int)[j]? = some v → rd (flat ++ [rd ws k, (sy.length : Int), -1, -1]) (sy.length * 4 + j) = v := fun j v hv => rd_append_at hl hv
      have e2 : rd (sy ++ [(k : Int)]) sy.length = (k : Int) := by simp [rd]
      rw [e2]
      exact ⟨by have := rdN 0 _ rfl; rwa [Nat.add_zero] at this, rdN 1 _ rfl, rdN 2 _ rfl⟩
theorem leavesTo_length (ws : List Int) (k : Nat) : (leavesTo ws k).length = (posTo ws k).length := by simp [leavesTo, posTo]
theorem leavesTo_get (ws : List Int) (k j : Nat) (hj : j < (posTo ws k).length) : (leavesTo ws k).getD j default = .leaf (rd ws (posTo ws k)[j]) (posTo ws k)[j] := by
  rw [List.getD_eq_getElem?_getD]
  unfold leavesTo posTo at *
  rw [List.getElem?_map, List.getElem?_eq_getElem hj]
  rfl
theorem posTo_le (ws : List Int) (k : Nat) : (posTo ws k).length ≤ k := by
  unfold posTo
  have := List.length_filter_le (fun s => decide (0 < rd ws s)) (List.range k)
  simpa using this
theorem sum_leaves_le (ws : List Int) (h : ∀ x ∈ ws, 0 ≤ x) (k : Nat) (hk : k ≤ ws.length) : sumW (leavesTo ws k) = (ws.take k).sum := by
  induction k with
  | zero => simp [leavesTo, sumW]
  | succ k ih =>
    have h1 := ih (by omega)
    have hx := h _ (List.getElem_mem (show k < ws.length by omega))
    rw [List.take_succ_eq_append_getElem (by omega), List.sum_append]
    rw [← rd_getElem (by omega)] at hx ⊢
    by_cases e : 0 < rd ws k
    · have : leavesTo ws (k + 1) = leavesTo ws k ++ [.leaf (rd ws k) k] := by simp [leavesTo, List.range_succ, List.filter_append, e]
      rw [this]
      simp only [sumW, List.map_append, List.sum_append] at h1 ⊢
      rw [h1]
      simp [HT.wt]
    · have : leavesTo ws (k + 1) = leavesTo ws k := by simp [leavesTo, List.range_succ, List.filter_append]; omega
      rw [this, h1]
      simp
      omega
theorem LInv.merge {ws : List Int} {flat sy wait wait0 : List Int} (h : LInv ws ws.length flat sy wait0) (hw : ∀ x ∈ ws, 0 ≤ x) (h0 : 0 < sy.length) (hp : wait.Perm wait0) (hh : heapOn (ltF' flat) wait 0 wait.length) :
    ∃ L, MInv ws (leavesOf ws).length L sy.length flat sy wait := by
  have hsl : sy.length = (posTo ws ws.length).length := by rw [h.syE]; simp
  have hll : (leavesOf ws).length = sy.length := by rw [hsl]; exact leavesTo_length ws _
  have hmap : ((List.range sy.length).map fun j => (j, (leavesOf ws).getD j default)).map Prod.snd = leavesOf ws := by
    apply List.ext_getElem (by simp [hll])
    intro i q1 q2
    simp [List.getElem?_eq_getElem q2]
  refine ⟨(List.range sy.length).map fun j => (j, (leavesOf ws).getD j default), ?_, ?_, ?_, ?_, ?_, h.len, ?_, hh, ?_, ?_, ?_⟩
  · simpa using h0
  · simp [hll]
  · rw [hmap]; rfl
  · refine ⟨?_, fun x hx => ?_⟩
    · rw [List.pairwise_map]
      exact List.pairwise_lt_range
    · obtain ⟨j, hj, rfl⟩ := List.mem_map.1 hx
      exact List.mem_range.1 hj
  · intro x hx
    obtain ⟨j, hj, rfl⟩ := List.mem_map.1 hx
    have hj' := List.mem_range.1 hj
    obtain ⟨c1, c2, c3⟩ := h.cell j hj'
    have e1 : rd sy j = ((posTo ws ws.length)[j]'(by omega) : Nat) := by
      rw [rd_getElem hj']
      simp [h.syE]
    have hl := h.len
    refine ⟨?_, c2, by simp only; omega⟩
    show TreeAt flat sy ((leavesTo ws ws.length).getD j default) j
    rw [leavesTo_get ws _ j (by omega)]
    refine ⟨?_, c3, hj', e1⟩
    rw [c1, e1, Int.toNat_natCast]
  · refine hp.trans ?_
    rw [h.wtE]
    simp [List.map_map]
    exact List.Perm.refl _
  · simp [hsl]
    have := posTo_le ws ws.length
    omega
  · intro x hx
    obtain ⟨j, hj, rfl⟩ := List.mem_map.1 hx
    have hj' := List.mem_range.1 hj
    show 0 ≤ ((leavesTo ws ws.length).getD j default).wt
    rw [leavesTo_get ws _ j (by omega)]
    have : (posTo ws ws.length)[j]'(by omega) ∈ posTo ws ws.length := List.getElem_mem _
    have := (mem_posTo.1 this).2
    show 0 ≤ rd ws _
    omega
  · rw [hmap]
    have := sum_leaves_le ws hw ws.length (Nat.le_refl _)
    rw [List.take_length] at this
    show sumW (leavesTo ws ws.length) ≤ _
    omega
/-- One alone is left. -/
theorem MInv.fin {ws : List Int} {f N : Nat} {L : List (Nat × HT)} {flat sy wait : List Int} (h : MInv ws f L N flat sy wait) (h1 : wait.length = 1) : ∃ (i : Nat) (root : HT), rd wait 0 = (i : Int) ∧ i < N ∧ rootOf ws = [root] ∧ TreeAt flat sy root i := by
  have hl := h.wlen
  obtain ⟨x, rfl⟩ := List.length_eq_one_iff.1 (hl.symm.trans h1)
  have hr := h.run
  have : hrun f ([x].map Prod.snd) = [x.2] := by
    cases f with
    | zero => rfl
    | succ f => unfold hrun; rw [if_pos (by simp)]; rfl
  rw [this] at hr
  refine ⟨x.1, x.2, ?_, h.tags.2 x (by simp), hr.symm, (h.ok x (by simp)).1⟩
  have hp := h.perm
  simp only [List.map_cons, List.map_nil] at hp
  rw [List.perm_singleton.1 hp]
  rfl
end Go.Proofs.Ytempgkglhgelkaa
