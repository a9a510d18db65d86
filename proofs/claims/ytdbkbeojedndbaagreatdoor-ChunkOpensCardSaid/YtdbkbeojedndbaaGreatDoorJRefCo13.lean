/-
  Texts joined into one file: HuffZ, HuffZP, HuffF, HuffK, PutP, StoP.
-/
import Derived.Test.YtdbkbeojedndbaaGreatDoorJRefCo12
import Derived.Test.YtdbkbeojedndbaaGreatDoorJRefCo2
import Derived.Test.YtdbkbeojedndbaaGreatDoorJRefCo7
import Derived.Test.YtdbkbeojedndbaaGreatDoorJRefCo11
import Derived.Test.YtdbkbeojedndbaaGreatDoorJRefCo4
import Derived.Test.YtdbkbeojedndbaaGreatDoorJRefCo6
import Derived.Test.YtdbkbeojedndbaaGreatDoorJRefCo3
namespace Go.Proofs.YtdbkbeojedndbaaGreatDoor

theorem ltF'_ord (flat : List Int) : Ord (ltF' flat) := by
 refine ⟨fun x y z h k => ?_, fun x y h => ?_⟩
 ·simp only [ltF', Bool.or_eq_false_iff, Bool.and_eq_false_iff, decide_eq_false_iff_not, beq_eq_false_iff_ne] at *
  omega
 ·simp only [ltF', Bool.or_eq_false_iff, Bool.and_eq_false_iff, decide_eq_false_iff_not, beq_eq_false_iff_ne, Bool.or_eq_true, Bool.and_eq_true, decide_eq_true_eq, beq_iff_eq] at *
  omega
structure MInv (ws : List Int) (f : Nat) (L : List (Nat × HT)) (N : Nat) (flat sy wait : List Int) : Prop where
 pos : 0 < L.length
 fuel : L.length ≤ f + 1
 run : hrun f (L.map Prod.snd) = rootOf ws
 tags : Tags L N
 ok : FlatOk flat sy L
 len : flat.length = N * 4
 perm : wait.Perm (L.map fun x => (x.1 : Int))
 heap : heapOn (ltF' flat) wait 0 wait.length
 cnt : N + L.length ≤ 2 * ws.length
 wts : ∀ x ∈ L, 0 ≤ x.2.wt
 sum : sumW (L.map Prod.snd) ≤ ws.sum
theorem MInv.wlen {ws : List Int} {f N : Nat} {L : List (Nat × HT)} {flat sy wait : List Int} (h : MInv ws f L N flat sy wait) : wait.length = L.length := by rw [h.perm.length_eq, List.length_map]
theorem mem_tags {L : List (Nat × HT)} {N : Nat} {wait : List Int} (hT : ∀ x ∈ L, x.1 < N) (hp : wait.Perm (L.map fun x => (x.1 : Int))) : ∀ j, j < wait.length → 0 ≤ rd wait j ∧ rd wait j < N := by
 intro j hj
 have h1 : rd wait j ∈ L.map fun x => (x.1 : Int) := by
  rw [← hp.mem_iff, rd_getElem hj]
  exact List.getElem_mem _
 obtain ⟨x, hx, e⟩ := List.mem_map.1 h1
 have := hT x hx
 omega
theorem MInv.rng {ws : List Int} {f N : Nat} {L : List (Nat × HT)} {flat sy wait : List Int} (h : MInv ws f L N flat sy wait) : ∀ j, j < wait.length → 0 ≤ rd wait j ∧ rd wait j < N := mem_tags h.tags.2 h.perm
theorem heapOn_more {flat r : List Int} {wait : List Int} {n N : Nat} (hl : flat.length = N * 4) (hr : ∀ j, j < wait.length → 0 ≤ rd wait j ∧ rd wait j < N) (hn : n ≤ wait.length) (h : heapOn (ltF' flat) wait 0 n) : heapOn (ltF' (flat ++ r)) wait 0 n := by
 intro k k0 kn ki
 have h1 := h k k0 kn ki
 have q1 := hr k (by omega)
 have q2 := hr ((k - 1) / 2) (by omega)
 unfold ltF' at h1 ⊢
 rw [rd_append_left (by omega), rd_append_left (by omega), rd_append_left (by omega), rd_append_left (by omega)]
 exact h1
theorem rd_append_at {flat r : List Int} {n j : Nat} {v : Int} (hl : flat.length = n) (hv : r[j]? = some v) : rd (flat ++ r) (n + j) = v := by
 unfold rd
 rw [List.getD_eq_getElem?_getD, List.getElem?_append_right (by omega), hl, Nat.add_sub_cancel_left, hv]
 rfl
theorem sumW_ge {L : List HT} (h : ∀ t ∈ L, 0 ≤ t.wt) : 0 ≤ sumW L := by
 induction L with
 | nil => simp [sumW]
 | cons t L ih =>
  have h1 := ih (fun u hu => h u (by simp [hu]))
  have h2 := h t (by simp)
  unfold sumW at h1 ⊢
  simp only [List.map_cons, List.sum_cons]
  omega
theorem MInv.step {ws : List Int} {f N : Nat} {L : List (Nat × HT)} {flat sy wait : List Int} (h : MInv ws f L N flat sy wait) (h1 : 1 < wait.length) :
  ∃ a b : Nat, ∃ (f' : Nat) (L' : List (Nat × HT)) (wait1 wait2 : List Int), f = f' + 1 ∧ wait1 = (popM (ltF' flat) wait).take (wait.length - 1) ∧ rd (popM (ltF' flat) wait) (wait.length - 1) = a ∧ wait1.length = wait.length - 1 ∧
   wait2 = (popM (ltF' flat) wait1).take (wait1.length - 1) ∧ rd (popM (ltF' flat) wait1) (wait1.length - 1) = b ∧ wait2.length + 2 = wait.length ∧ a < N ∧ b < N ∧ (∀ j, j < wait1.length → 0 ≤ rd wait1 j ∧ rd wait1 j < N) ∧ (∀ j, j < wait2.length → 0 ≤ rd wait2 j ∧ rd wait2 j < N) ∧
   0 ≤ rd flat (a * 4) + rd flat (b * 4) ∧ 0 ≤ rd flat (a * 4) ∧ 0 ≤ rd flat (b * 4) ∧ rd flat (a * 4) + rd flat (b * 4) ≤ ws.sum ∧ L'.length + 1 = L.length ∧
   MInv ws f' L' (N + 1) (flat ++ [rd flat (a * 4) + rd flat (b * 4), (N : Int), (a : Int), (b : Int)]) sy (pushM (ltF' (flat ++ [rd flat (a * 4) + rd flat (b * 4), (N : Int), (a : Int), (b : Int)])) wait2 N) := by
 have hwl := h.wlen
 obtain ⟨a, b, rest, hp, he, hab, hbr, hT'⟩ := tstep_parts h.tags (by omega)
 have O := ltF'_ord flat
 have hin : ∀ x, x ∈ L ↔ x = a ∨ x = b ∨ x ∈ rest := fun x => by rw [hp.mem_iff]; simp
 obtain ⟨g1, g2, g3⟩ := pop_least O h.ok hp (fun u hu => by
  rcases List.mem_cons.1 hu with rfl | hu
  ·exact hab
  ·exact ltT_trans hab (hbr u hu)) h.perm h.heap
 have hok1 : FlatOk flat sy (b :: rest) := h.ok.perm (fun x hx => (hin x).2 (by rcases List.mem_cons.1 hx with hx | hx <;> simp [hx]))
 obtain ⟨w1, hw1⟩ : ∃ w1, w1 = (popM (ltF' flat) wait).take (wait.length - 1) := ⟨_, rfl⟩
 rw [← hw1] at g2 g3
 obtain ⟨k1, k2, k3⟩ := pop_least O hok1 (List.Perm.refl _) hbr g2 g3
 obtain ⟨w2, hw2⟩ : ∃ w2, w2 = (popM (ltF' flat) w1).take (w1.length - 1) := ⟨_, rfl⟩
 rw [← hw2] at k2 k3
 have hrl : rest.length + 2 = L.length := by rw [hp.length_eq]; simp
 have hw1l : w1.length = wait.length - 1 := by rw [g2.length_eq, hwl]; simp; omega
 have hw2l : w2.length + 2 = wait.length := by rw [k2.length_eq, hwl]; simp; omega
 have haN := h.tags.2 a ((hin a).2 (.inl rfl))
 have hbN := h.tags.2 b ((hin b).2 (.inr (.inl rfl)))
 have oka := h.ok a ((hin a).2 (.inl rfl))
 have okb := h.ok b ((hin b).2 (.inr (.inl rfl)))
 have ea := oka.1.wt
 have eb := okb.1.wt
 have wa := h.wts a ((hin a).2 (.inl rfl))
 have wb := h.wts b ((hin b).2 (.inr (.inl rfl)))
 have hr1 : ∀ j, j < w1.length → 0 ≤ rd w1 j ∧ rd w1 j < N := mem_tags (L := b :: rest) (fun x hx => h.tags.2 x ((hin x).2 (by rcases List.mem_cons.1 hx with hx | hx <;> simp [hx]))) g2
 have hr2 : ∀ j, j < w2.length → 0 ≤ rd w2 j ∧ rd w2 j < N := mem_tags (L := rest) (fun x hx => h.tags.2 x ((hin x).2 (by simp [hx]))) k2
 have hsum : a.2.wt + b.2.wt + sumW (rest.map Prod.snd) = sumW (L.map Prod.snd) := by
  rw [sumW_perm (hp.map Prod.snd)]
  simp only [sumW, List.map_cons, List.sum_cons]
  omega
 have hrest0 := sumW_ge (L := rest.map Prod.snd) (fun t ht => by
  obtain ⟨x, hx, rfl⟩ := List.mem_map.1 ht
  exact h.wts x ((hin x).2 (by simp [hx])))
 have hs := h.sum
 obtain ⟨f', rfl⟩ : ∃ f', f = f' + 1 := ⟨f - 1, by have := h.fuel; omega⟩
 have hlen := h.len
 have hLl : (tstep L N).length + 1 = L.length := by rw [he]; simp; omega
 refine ⟨a.1, b.1, f', tstep L N, w1, w2, rfl, hw1, g1, hw1l, hw2, k1, hw2l, haN, hbN, hr1, hr2, by omega, by omega, by omega, by omega, hLl, ?_⟩
 have hmemT : ∀ x, x ∈ tstep L N ↔ x ∈ rest ∨ x = (N, .node a.2 b.2) := fun x => by rw [he]; simp
 have rdN : ∀ (j : Nat) (v : Int), ([rd flat (a.1 * 4) + rd flat (b.1 * 4), (N : Int), (a.1 : Int), (b.1 : Int)] : List Int)[j]? = some v → rd (flat ++ [rd flat (a.1 * 4) + rd flat (b.1 * 4), (N : Int), (a.1 : Int), (b.1 : Int)]) (N * 4 + j) = v := fun j v hv => rd_append_at hlen hv
 obtain ⟨P1, P2⟩ := pushM_spec (ltF'_ord (flat ++ [rd flat (a.1 * 4) + rd flat (b.1 * 4), (N : Int), (a.1 : Int), (b.1 : Int)])) (l := w2) (N : Int) (heapOn_more hlen hr2 (Nat.le_refl _) k3)
 refine ⟨by omega, by have := h.fuel; omega, ?_, hT', ?_, by rw [List.length_append]; simp; omega, ?_, ?_, by have := h.cnt; omega, ?_, ?_⟩
 ·have h9 := h.run
  unfold hrun at h9
  rw [if_neg (by rw [List.length_map]; omega)] at h9
  rw [tstep_map]
  exact h9
 ·intro x hx
  rcases (hmemT x).1 hx with hx | rfl
  ·exact (h.ok.more _) x ((hin x).2 (by simp [hx]))
  ·refine ⟨⟨a.1, b.1, ?_, ?_, ?_, haN, hbN, oka.1.more _ (by omega), okb.1.more _ (by omega)⟩, rdN 1 _ rfl, by rw [List.length_append]; simp; omega⟩
   ·have := rdN 0 _ rfl
    rw [Nat.add_zero] at this
    rw [this, ea, eb]
   ·exact rdN 2 _ rfl
   ·exact rdN 3 _ rfl
 ·rw [he]
  refine P2.trans ?_
  rw [List.map_append]
  exact k2.append (List.Perm.refl _)
 ·rw [show (pushM (ltF' (flat ++ [rd flat (a.1 * 4) + rd flat (b.1 * 4), (N : Int), (a.1 : Int), (b.1 : Int)])) w2 N).length = w2.length + 1 from by rw [P2.length_eq]; simp]
  exact P1
 ·intro x hx
  rcases (hmemT x).1 hx with hx | rfl
  ·exact h.wts x ((hin x).2 (by simp [hx]))
  ·show 0 ≤ a.2.wt + b.2.wt
   omega
 ·rw [he, List.map_append]
  have : sumW (rest.map Prod.snd ++ [(N, HT.node a.2 b.2)].map Prod.snd) = sumW (rest.map Prod.snd) + (a.2.wt + b.2.wt) := by
   simp [sumW, List.sum_append, HT.wt]
  rw [this]
  omega
structure LInv (ws : List Int) (k : Nat) (flat sy wait : List Int) : Prop where
 syE : sy = (posTo ws k).map fun (s : Nat) => (s : Int)
 wtE : wait = (List.range sy.length).map fun (j : Nat) => (j : Int)
 len : flat.length = sy.length * 4
 cell : ∀ j, j < sy.length → rd flat (j * 4) = rd ws (rd sy j).toNat ∧ rd flat (j * 4 + 1) = (j : Int) ∧ rd flat (j * 4 + 2) = -1
theorem LInv.start (ws : List Int) : LInv ws 0 [] [] [] := ⟨rfl, rfl, rfl, fun j hj => by simp at hj⟩
theorem posTo_hit {ws : List Int} {k : Nat} (h : 0 < rd ws k) : posTo ws (k + 1) = posTo ws k ++ [k] := by simp [posTo, List.range_succ, List.filter_append, h]
theorem posTo_miss {ws : List Int} {k : Nat} (h : ¬ 0 < rd ws k) : posTo ws (k + 1) = posTo ws k := by simp [posTo, List.range_succ, List.filter_append, h]
theorem LInv.miss {ws : List Int} {k : Nat} {flat sy wait : List Int} (h : LInv ws k flat sy wait) (hx : ¬ 0 < rd ws k) : LInv ws (k + 1) flat sy wait := ⟨by rw [posTo_miss hx]; exact h.syE, h.wtE, h.len, h.cell⟩
theorem LInv.hit {ws : List Int} {k : Nat} {flat sy wait : List Int} (h : LInv ws k flat sy wait) (hx : 0 < rd ws k) : LInv ws (k + 1) (flat ++ [rd ws k, (sy.length : Int), -1, -1]) (sy ++ [(k : Int)]) (wait ++ [(sy.length : Int)]) := by
 refine ⟨?_, ?_, ?_, ?_⟩
 ·rw [posTo_hit hx, List.map_append, ← h.syE]
  rfl
 ·rw [h.wtE, List.length_append]
  simp [List.range_succ]
 ·simp [h.len]
  omega
 ·intro j hj
  have hl := h.len
  rcases Nat.lt_or_ge j sy.length with hlt | hge
  ·rw [rd_append_left (l := sy) hlt, rd_append_left (by omega), rd_append_left (by omega), rd_append_left (by omega)]
   exact h.cell j hlt
  ·have e : j = sy.length := by simp at hj; omega
   subst e
   have rdN : ∀ (j : Nat) (v : Int), ([rd ws k, (sy.length : Int), -1, -1] : List Int)[j]? = some v → rd (flat ++ [rd ws k, (sy.length : Int), -1, -1]) (sy.length * 4 + j) = v := fun j v hv => rd_append_at hl hv
   have e2 : rd (sy ++ [(k : Int)]) sy.length = (k : Int) := by simp [rd]
   rw [e2]
   exact ⟨by have := rdN 0 _ rfl; rwa [Nat.add_zero] at this, rdN 1 _ rfl, rdN 2 _ rfl⟩
theorem leavesTo_length (ws : List Int) (k : Nat) : (leavesTo ws k).length = (posTo ws k).length := by simp [leavesTo, posTo]
theorem leavesTo_get (ws : List Int) (k j : Nat) (hj : j < (posTo ws k).length) : (leavesTo ws k).getD j default = .leaf (rd ws (posTo ws k)[j]) (posTo ws k)[j] := by
 rw [List.getD_eq_getElem?_getD]
 unfold leavesTo posTo at *
 rw [List.getElem?_map, List.getElem?_eq_getElem hj]
 rfl
theorem posTo_le (ws : List Int) (k : Nat) : (posTo ws k).length ≤ k := by
 unfold posTo
 have := List.length_filter_le (fun s => decide (0 < rd ws s)) (List.range k)
 simpa using this
theorem sum_leaves_le (ws : List Int) (h : ∀ x ∈ ws, 0 ≤ x) (k : Nat) (hk : k ≤ ws.length) : sumW (leavesTo ws k) = (ws.take k).sum := by
 induction k with
 | zero => simp [leavesTo, sumW]
 | succ k ih =>
  have h1 := ih (by omega)
  have hx := h _ (List.getElem_mem (show k < ws.length by omega))
  rw [List.take_succ_eq_append_getElem (by omega), List.sum_append]
  rw [← rd_getElem (by omega)] at hx ⊢
  by_cases e : 0 < rd ws k
  ·have : leavesTo ws (k + 1) = leavesTo ws k ++ [.leaf (rd ws k) k] := by simp [leavesTo, List.range_succ, List.filter_append, e]
   rw [this]
   simp only [sumW, List.map_append, List.sum_append] at h1 ⊢
   rw [h1]
   simp [HT.wt]
  ·have : leavesTo ws (k + 1) = leavesTo ws k := by simp [leavesTo, List.range_succ, List.filter_append]; omega
   rw [this, h1]
   simp
   omega
theorem LInv.merge {ws : List Int} {flat sy wait wait0 : List Int} (h : LInv ws ws.length flat sy wait0) (hw : ∀ x ∈ ws, 0 ≤ x) (h0 : 0 < sy.length) (hp : wait.Perm wait0) (hh : heapOn (ltF' flat) wait 0 wait.length) :
  ∃ L, MInv ws (leavesOf ws).length L sy.length flat sy wait := by
 have hsl : sy.length = (posTo ws ws.length).length := by rw [h.syE]; simp
 have hll : (leavesOf ws).length = sy.length := by rw [hsl]; exact leavesTo_length ws _
 have hmap : ((List.range sy.length).map fun j => (j, (leavesOf ws).getD j default)).map Prod.snd = leavesOf ws := by
  apply List.ext_getElem (by simp [hll])
  intro i q1 q2
  simp [List.getElem?_eq_getElem q2]
 refine ⟨(List.range sy.length).map fun j => (j, (leavesOf ws).getD j default), ?_, ?_, ?_, ?_, ?_, h.len, ?_, hh, ?_, ?_, ?_⟩
 ·simpa using h0
 ·simp [hll]
 ·rw [hmap]; rfl
 ·refine ⟨?_, fun x hx => ?_⟩
  ·rw [List.pairwise_map]
   exact List.pairwise_lt_range
  ·obtain ⟨j, hj, rfl⟩ := List.mem_map.1 hx
   exact List.mem_range.1 hj
 ·intro x hx
  obtain ⟨j, hj, rfl⟩ := List.mem_map.1 hx
  have hj' := List.mem_range.1 hj
  obtain ⟨c1, c2, c3⟩ := h.cell j hj'
  have e1 : rd sy j = ((posTo ws ws.length)[j]'(by omega) : Nat) := by
   rw [rd_getElem hj']
   simp [h.syE]
  have hl := h.len
  refine ⟨?_, c2, by simp only; omega⟩
  show TreeAt flat sy ((leavesTo ws ws.length).getD j default) j
  rw [leavesTo_get ws _ j (by omega)]
  refine ⟨?_, c3, hj', e1⟩
  rw [c1, e1, Int.toNat_natCast]
 ·refine hp.trans ?_
  rw [h.wtE]
  simp [List.map_map]
  exact List.Perm.refl _
 ·simp [hsl]
  have := posTo_le ws ws.length
  omega
 ·intro x hx
  obtain ⟨j, hj, rfl⟩ := List.mem_map.1 hx
  have hj' := List.mem_range.1 hj
  show 0 ≤ ((leavesTo ws ws.length).getD j default).wt
  rw [leavesTo_get ws _ j (by omega)]
  have : (posTo ws ws.length)[j]'(by omega) ∈ posTo ws ws.length := List.getElem_mem _
  have := (mem_posTo.1 this).2
  show 0 ≤ rd ws _
  omega
 ·rw [hmap]
  have := sum_leaves_le ws hw ws.length (Nat.le_refl _)
  rw [List.take_length] at this
  show sumW (leavesTo ws ws.length) ≤ _
  omega
theorem MInv.fin {ws : List Int} {f N : Nat} {L : List (Nat × HT)} {flat sy wait : List Int} (h : MInv ws f L N flat sy wait) (h1 : wait.length = 1) : ∃ (i : Nat) (root : HT), rd wait 0 = (i : Int) ∧ i < N ∧ rootOf ws = [root] ∧ TreeAt flat sy root i := by
 have hl := h.wlen
 obtain ⟨x, rfl⟩ := List.length_eq_one_iff.1 (hl.symm.trans h1)
 have hr := h.run
 have : hrun f ([x].map Prod.snd) = [x.2] := by
  cases f with
  | zero => rfl
  | succ f => unfold hrun; rw [if_pos (by simp)]; rfl
 rw [this] at hr
 refine ⟨x.1, x.2, ?_, h.tags.2 x (by simp), hr.symm, (h.ok x (by simp)).1⟩
 have hp := h.perm
 simp only [List.map_cons, List.map_nil] at hp
 rw [List.perm_singleton.1 hp]
 rfl
end Go.Proofs.YtdbkbeojedndbaaGreatDoor
namespace Go.Proofs.YtdbkbeojedndbaaGreatDoor
theorem rd_zerosR (ws : List Int) (k j : Nat) : rd (ws ++ List.replicate k 0) j = rd ws j := by
 rcases Nat.lt_or_ge j ws.length with h | h
 ·exact rd_append_left h
 ·unfold rd
  rw [List.getD_eq_getElem?_getD, List.getD_eq_getElem?_getD, List.getElem?_append_right h, List.getElem?_replicate, List.getElem?_eq_none h]
  split <;> rfl
theorem rd_past {ws : List Int} {j : Nat} (h : ws.length ≤ j) : rd ws j = 0 := by
 unfold rd
 rw [List.getD_eq_getElem?_getD, List.getElem?_eq_none h]
 rfl
theorem leavesTo_zeros (ws : List Int) (k : Nat) : ∀ m, leavesTo (ws ++ List.replicate k 0) (ws.length + m) = leavesTo ws ws.length := by
 have e1 : ∀ m, leavesTo (ws ++ List.replicate k 0) m = leavesTo ws m := fun m => by
  unfold leavesTo
  simp only [rd_zerosR]
 intro m
 rw [e1]
 induction m with
 | zero => rfl
 | succ m ih =>
  have h0 := rd_past (ws := ws) (j := ws.length + m) (by omega)
  rw [← ih]
  unfold leavesTo
  rw [show ws.length + (m + 1) = ws.length + m + 1 from rfl, List.range_succ, List.filter_append]
  simp [h0]
theorem leavesOf_zeros (ws : List Int) (k : Nat) : leavesOf (ws ++ List.replicate k 0) = leavesOf ws := by
 unfold leavesOf
 rw [List.length_append, List.length_replicate, leavesTo_zeros]
theorem rootOf_zeros (ws : List Int) (k : Nat) : rootOf (ws ++ List.replicate k 0) = rootOf ws := by
 unfold rootOf
 rw [leavesOf_zeros]
theorem onceM_zeros (ws : List Int) (k : Nat) : onceM (ws ++ List.replicate k 0) = onceM ws ++ List.replicate k 0 := by
 apply List.ext_getElem
 ·simp [onceM]
 ·intro i h1 h2
  rcases Nat.lt_or_ge i ws.length with h | h
  ·rw [List.getElem_append_left (by rw [onceM_length]; exact h)]
   simp only [onceM, List.getElem_map, List.getElem_range, rootOf_zeros]
  ·rw [List.getElem_append_right (by rw [onceM_length]; exact h)]
   have hn : depIn (rootOf ws) i = none := by
    rw [depIn_none, (rootOf_syms ws).mem_iff, mem_posTo]
    omega
   simp only [onceM, List.getElem_map, List.getElem_range, rootOf_zeros, hn, List.getElem_replicate]
theorem halve_zeros (ws : List Int) (k : Nat) : halve (ws ++ List.replicate k 0) = halve ws ++ List.replicate k 0 := by
 simp [halve]
theorem lensM_zeros (m k : Nat) : ∀ (f : Nat) (ws : List Int), lensM f m (ws ++ List.replicate k 0) = lensM f m ws ++ List.replicate k 0
 | 0, ws => onceM_zeros ws k
 | f + 1, ws => by
  have hall : (onceM (ws ++ List.replicate k 0)).all (fun x => decide (x ≤ (m : Int))) = (onceM ws).all (fun x => decide (x ≤ (m : Int))) := by
   rw [onceM_zeros, List.all_append]
   have : (List.replicate k (0 : Int)).all (fun x => decide (x ≤ (m : Int))) = true := by
    rw [List.all_eq_true]
    intro x hx
    rw [List.eq_of_mem_replicate hx]
    simp
   rw [this, Bool.and_true]
  unfold lensM
  rw [hall]
  split
  ·exact onceM_zeros ws k
  ·rw [halve_zeros, lensM_zeros m k f]
theorem sum_zeros (ws : List Int) (k : Nat) : (ws ++ List.replicate k 0).sum = ws.sum := by
 rw [List.sum_append]
 have : ∀ k, (List.replicate k (0 : Int)).sum = 0 := by
  intro k
  induction k with
  | zero => rfl
  | succ k ih => rw [List.replicate_succ, List.sum_cons, ih]; rfl
 rw [this]
 omega
theorem lensOf_zeros (m k : Nat) (ws : List Int) : lensOf m (ws ++ List.replicate k 0) = lensOf m ws ++ List.replicate k 0 := by
 unfold lensOf
 rw [sum_zeros]
 exact lensM_zeros m k _ ws
theorem posTo_zeros (ws : List Int) (k : Nat) : (posTo (ws ++ List.replicate k 0) (ws ++ List.replicate k 0).length).length = (posTo ws ws.length).length := by
 rw [← leavesTo_length, ← leavesTo_length, List.length_append, List.length_replicate, leavesTo_zeros]
theorem lensM_length (m : Nat) : ∀ (f : Nat) (ws : List Int), (lensM f m ws).length = ws.length
 | 0, ws => onceM_length ws
 | f + 1, ws => by
  unfold lensM
  split
  ·exact onceM_length ws
  ·rw [lensM_length m f, halve_length]
theorem lensOf_length (m : Nat) (ws : List Int) : (lensOf m ws).length = ws.length := lensM_length m _ ws
end Go.Proofs.YtdbkbeojedndbaaGreatDoor
namespace Go.Proofs.YtdbkbeojedndbaaGreatDoor

/-! ### heights and weights -/
def HT.kids : HT → List HT
 | .leaf _ _ => []
 | .node l r => [l, r]
def hb : Nat → Int
 | 0 => 1
 | 1 => 2
 | h + 2 => hb (h + 1) + hb h
theorem hb_pos : ∀ h, 1 ≤ hb h
 | 0 => by decide
 | 1 => by decide
 | h + 2 => by
  have h1 := hb_pos (h + 1)
  have h2 := hb_pos h
  simp only [hb]
  omega
def GoodT : HT → Prop
 | .leaf w _ => 1 ≤ w
 | .node l r => (∀ c ∈ l.kids, c.wt ≤ r.wt) ∧ (∀ c ∈ r.kids, c.wt ≤ l.wt) ∧ GoodT l ∧ GoodT r
theorem GoodT.pos : ∀ {t : HT}, GoodT t → 1 ≤ t.wt
 | .leaf _ _, h => h
 | .node l r, ⟨_, _, h1, h2⟩ => by
  have := h1.pos
  have := h2.pos
  show 1 ≤ l.wt + r.wt
  omega
theorem GoodT.kid : ∀ {t : HT}, GoodT t → ∀ c ∈ t.kids, GoodT c
 | .leaf _ _, _, c, hc => by simp [HT.kids] at hc
 | .node l r, ⟨_, _, h1, h2⟩, c, hc => by
  simp [HT.kids] at hc
  rcases hc with rfl | rfl
  ·exact h1
  ·exact h2
def deepAt (t : HT) (h : Nat) : Prop := ∃ p ∈ t.dep, h ≤ p.2
theorem deepAt_node {l r : HT} {h : Nat} (hd : deepAt (.node l r) (h + 1)) : deepAt l h ∨ deepAt r h := by
 obtain ⟨p, hp, hh⟩ := hd
 simp only [HT.dep, List.mem_map, List.mem_append] at hp
 obtain ⟨q, hq, rfl⟩ := hp
 simp at hh
 rcases hq with hq | hq
 ·exact .inl ⟨q, hq, hh⟩
 ·exact .inr ⟨q, hq, hh⟩
theorem deepAt_leaf {w : Int} {s h : Nat} (hd : deepAt (.leaf w s) h) : h = 0 := by
 obtain ⟨p, hp, hh⟩ := hd
 simp [HT.dep] at hp
 subst hp
 simpa using hh
theorem deepAt_kid {t : HT} {h : Nat} (hd : deepAt t (h + 1)) : ∃ c ∈ t.kids, deepAt c h := by
 cases t with
 | leaf w s => have := deepAt_leaf hd; omega
 | node l r =>
  rcases deepAt_node hd with h1 | h1
  ·exact ⟨l, by simp [HT.kids], h1⟩
  ·exact ⟨r, by simp [HT.kids], h1⟩
theorem GoodT.height : ∀ (h : Nat) {t : HT}, GoodT t → deepAt t h → hb h ≤ t.wt
 | 0, t, hg, _ => by have := hg.pos; simp only [hb]; exact this
 | 1, t, hg, hd => by
  cases t with
  | leaf w s => have := deepAt_leaf hd; omega
  | node l r =>
   have := hg.2.2.1.pos
   have := hg.2.2.2.pos
   show 2 ≤ l.wt + r.wt
   omega
 | h + 2, t, hg, hd => by
  cases t with
  | leaf w s => have := deepAt_leaf hd; omega
  | node l r =>
   show hb (h + 1) + hb h ≤ l.wt + r.wt
   rcases deepAt_node hd with h1 | h1
   ·have q1 := GoodT.height (h + 1) hg.2.2.1 h1
    obtain ⟨c, hc, hdc⟩ := deepAt_kid h1
    have q2 := GoodT.height h (hg.2.2.1.kid c hc) hdc
    have q3 := hg.1 c hc
    omega
   ·have q1 := GoodT.height (h + 1) hg.2.2.2 h1
    obtain ⟨c, hc, hdc⟩ := deepAt_kid h1
    have q2 := GoodT.height h (hg.2.2.2.kid c hc) hdc
    have q3 := hg.2.1 c hc
    omega
def GoodF (L : List HT) : Prop := (∀ t ∈ L, GoodT t) ∧ ∀ t ∈ L, ∀ c ∈ t.kids, ∀ u ∈ L, c.wt ≤ u.wt
theorem GoodF.step {L : List HT} (h1 : 1 < L.length) (h : GoodF L) : GoodF (hstep L) := by
 obtain ⟨a, b, rest, hp, he, _, _, _, hab, hr⟩ := hstep_parts h1
 rw [he]
 have hin : ∀ x, x ∈ L ↔ x = a ∨ x = b ∨ x ∈ rest := fun x => by rw [hp.mem_iff]; simp
 have ha := (hin a).2 (.inl rfl)
 have hb' := (hin b).2 (.inr (.inl rfl))
 have ga := h.1 a ha
 have gb := h.1 b hb'
 have pa := ga.pos
 have pb := gb.pos
 have hmem : ∀ x, x ∈ rest ++ [HT.node a b] ↔ x ∈ rest ∨ x = .node a b := fun x => by simp
 refine ⟨fun t ht => ?_, fun t ht c hc u hu => ?_⟩
 ·rcases (hmem t).1 ht with ht | rfl
  ·exact h.1 t ((hin t).2 (.inr (.inr ht)))
  ·exact ⟨fun c hc => h.2 a ha c hc b hb', fun c hc => h.2 b hb' c hc a ha, ga, gb⟩
 ·have wn : (HT.node a b).wt = a.wt + b.wt := rfl
  rcases (hmem t).1 ht with ht | rfl
  ·have ht' := (hin t).2 (.inr (.inr ht))
   rcases (hmem u).1 hu with hu | rfl
   ·exact h.2 t ht' c hc u ((hin u).2 (.inr (.inr hu)))
   ·have := h.2 t ht' c hc a ha
    omega
  ·simp [HT.kids] at hc
   rcases (hmem u).1 hu with hu | rfl
   ·have := hr u hu
    rcases hc with rfl | rfl <;> omega
   ·rcases hc with rfl | rfl <;> omega
theorem GoodF.leaves (ws : List Int) (k : Nat) : GoodF (leavesTo ws k) := by
 refine ⟨fun t ht => ?_, fun t ht c hc => ?_⟩
 ·obtain ⟨s, _, h, rfl⟩ := mem_leavesTo ht
  show 1 ≤ rd ws s
  omega
 ·obtain ⟨s, _, h, rfl⟩ := mem_leavesTo ht
  simp [HT.kids] at hc
theorem GoodF.root (ws : List Int) : GoodF (rootOf ws) := hrun_inv (P := GoodF) (fun _ h1 h => h.step h1) _ _ (GoodF.leaves ws _)
theorem onceM_15 (ws : List Int) (h0 : ∀ x ∈ ws, 0 ≤ x) (hs : ws.sum < 2584) : ∀ x ∈ onceM ws, x ≤ 15 := by
 intro x hx
 unfold onceM at hx
 obtain ⟨s, hs', rfl⟩ := List.mem_map.1 hx
 cases e : depIn (rootOf ws) s with
 | none => simp
 | some k =>
  simp only
  have hk := (depIn_mem (rootOf_nodup ws) s k).1 e
  obtain ⟨t, ht, hkt⟩ := List.mem_flatMap.1 hk
  rcases Nat.lt_or_ge 15 k with h | h
  ·exfalso
   have hg := (GoodF.root ws).1 t ht
   have h1 := hg.height 16 ⟨(s, k), hkt, h⟩
   have h2 : sumW (rootOf ws) = ws.sum := by
    have := sum_leaves_le ws h0 ws.length (Nat.le_refl _)
    rw [List.take_length] at this
    exact (sumW_run _ _).trans this
   have h3 : t.wt ≤ sumW (rootOf ws) := by
    obtain ⟨a, b, hab⟩ := List.append_of_mem ht
    rw [hab]
    have g1 := sumW_ge (L := a) (fun u hu => by have := ((GoodF.root ws).1 u (by rw [hab]; simp [hu])).pos; omega)
    have g2 := sumW_ge (L := b) (fun u hu => by have := ((GoodF.root ws).1 u (by rw [hab]; simp [hu])).pos; omega)
    unfold sumW at *
    simp only [List.map_append, List.map_cons, List.sum_append, List.sum_cons]
    omega
   have h4 : hb 16 = 2584 := by decide
   omega
  ·omega
theorem onceM_mono (ws : List Int) (i k : Nat) (hi : i < ws.length) (hk : k < ws.length) (h0 : 0 < rd ws k) (hik : rd ws k < rd ws i) : rd (onceM ws) i ≤ rd (onceM ws) k := by
 have hne : 0 < (leavesOf ws).length := by
  rw [leavesOf_length]
  exact List.length_pos_of_mem (mem_posTo.2 ⟨hk, h0⟩)
 have hmap : ((List.range (leavesOf ws).length).map fun j => (j, (leavesOf ws).getD j default)).map Prod.snd = leavesOf ws := by
  apply List.ext_getElem (by simp)
  intro j q1 q2
  simp [List.getElem?_eq_getElem q2]
 have hT : Tags ((List.range (leavesOf ws).length).map fun j => (j, (leavesOf ws).getD j default)) (leavesOf ws).length := by
  refine ⟨?_, fun x hx => ?_⟩
  ·rw [List.pairwise_map]
   exact List.pairwise_lt_range
  ·obtain ⟨j, hj, rfl⟩ := List.mem_map.1 hx
   exact List.mem_range.1 hj
 have hleaf : ∀ s, s < ws.length → 0 < rd ws s → ∃ j, j < (leavesOf ws).length ∧ (leavesOf ws).getD j default = .leaf (rd ws s) s := by
  intro s hs h
  have hm : HT.leaf (rd ws s) s ∈ leavesOf ws := by
   unfold leavesOf leavesTo
   exact List.mem_map.2 ⟨s, by simp [hs, h], rfl⟩
  obtain ⟨j, hj, e⟩ := List.getElem_of_mem hm
  exact ⟨j, hj, by rw [List.getD_eq_getElem?_getD, List.getElem?_eq_getElem hj, e]; rfl⟩
 obtain ⟨root, hroot, D, hd, hP, _⟩ := mono_run (leavesOf ws).length _ _ hT (by simpa using hne) (by simp) (fun x hx => by
  obtain ⟨j, hj, rfl⟩ := List.mem_map.1 hx
  have hj' := List.mem_range.1 hj
  have hm : (leavesOf ws).getD j default ∈ leavesTo ws ws.length := by
   rw [List.getD_eq_getElem?_getD, List.getElem?_eq_getElem hj']
   exact List.getElem_mem _
  obtain ⟨s, _, h, e⟩ := mem_leavesTo hm
  rw [e]
  show 0 ≤ rd ws s
  omega)
 rw [hmap] at hroot
 have hR : rootOf ws = [root] := hroot
 have val : ∀ s j, s < ws.length → j < (leavesOf ws).length → (leavesOf ws).getD j default = .leaf (rd ws s) s → rd (onceM ws) s = (max (D j) 1 : Nat) := by
  intro s j hs hj e
  have h1 := hd (j, (leavesOf ws).getD j default) (List.mem_map.2 ⟨j, List.mem_range.2 hj, rfl⟩) s 0 (by rw [e]; simp [HT.dep])
  rw [Nat.zero_add] at h1
  have h2 : depIn (rootOf ws) s = some (D j) := (depIn_mem (rootOf_nodup ws) s _).2 (by rw [hR]; simpa using h1)
  rw [rd_getElem (by rw [onceM_length]; exact hs)]
  simp [onceM, h2]
 obtain ⟨ji, hji, ei⟩ := hleaf i hi (by omega)
 obtain ⟨jk, hjk, ek⟩ := hleaf k hk h0
 rw [val i ji hi hji ei, val k jk hk hjk ek]
 have := hP (jk, (leavesOf ws).getD jk default) (List.mem_map.2 ⟨jk, List.mem_range.2 hjk, rfl⟩) (ji, (leavesOf ws).getD ji default) (List.mem_map.2 ⟨ji, List.mem_range.2 hji, rfl⟩) (by
  rw [ei, ek]
  exact .inl hik)
 simp only at this
 omega
end Go.Proofs.YtdbkbeojedndbaaGreatDoor
namespace Go.Proofs.YtdbkbeojedndbaaGreatDoor

theorem sum_map_perm {α : Type} (f : α → Int) {l l' : List α} (h : l.Perm l') : (l.map f).sum = (l'.map f).sum := by
 induction h with
 | nil => rfl
 | cons x _ ih => simp only [List.map_cons, List.sum_cons, ih]
 | swap x y l => simp only [List.map_cons, List.sum_cons]; omega
 | trans _ _ h1 h2 => exact h1.trans h2
theorem dep_ne : ∀ t : HT, ∃ p, p ∈ t.dep
 | .leaf w s => ⟨(s, 0), by simp [HT.dep]⟩
 | .node l r => by
  obtain ⟨p, hp⟩ := dep_ne l
  exact ⟨(p.1, p.2 + 1), by simp only [HT.dep, List.mem_map, List.mem_append]; exact ⟨p, .inl hp, rfl⟩⟩
theorem kraft : ∀ (t : HT) (d : Nat), (∀ p ∈ t.dep, d + p.2 ≤ 15) → (t.dep.map fun p => (2 : Int) ^ (15 - (d + p.2))).sum = 2 ^ (15 - d)
 | .leaf w s, d, _ => by simp [HT.dep]
 | .node l r, d, h => by
  have hl : ∀ p ∈ l.dep, d + 1 + p.2 ≤ 15 := fun p hp => by
   have := h (p.1, p.2 + 1) (by simp only [HT.dep, List.mem_map, List.mem_append]; exact ⟨p, .inl hp, rfl⟩)
   simp at this
   omega
  have hr : ∀ p ∈ r.dep, d + 1 + p.2 ≤ 15 := fun p hp => by
   have := h (p.1, p.2 + 1) (by simp only [HT.dep, List.mem_map, List.mem_append]; exact ⟨p, .inr hp, rfl⟩)
   simp at this
   omega
  have e1 := kraft l (d + 1) hl
  have e2 := kraft r (d + 1) hr
  obtain ⟨p, hp⟩ := dep_ne l
  have hd := hl p hp
  have e3 : ((HT.node l r).dep.map fun p => (2 : Int) ^ (15 - (d + p.2))) = (l.dep.map fun p => (2 : Int) ^ (15 - (d + 1 + p.2))) ++ (r.dep.map fun p => (2 : Int) ^ (15 - (d + 1 + p.2))) := by
   simp only [HT.dep, List.map_map, List.map_append]
   congr 1
   all_goals
    apply List.map_congr_left
    intro q _
    simp only [Function.comp]
    congr 2
    omega
  rw [e3, List.sum_append, e1, e2, show 15 - d = (15 - (d + 1)) + 1 from by omega, Int.pow_succ]
  omega
theorem onceM_at (ws : List Int) (s : Nat) (hs : s < ws.length) : (0 < rd ws s → ∃ k, depIn (rootOf ws) s = some k ∧ rd (onceM ws) s = (max k 1 : Nat)) ∧ (¬ 0 < rd ws s → rd (onceM ws) s = 0) := by
 refine ⟨fun h => ?_, fun h => ?_⟩
 ·cases e : depIn (rootOf ws) s with
  | none =>
   rw [depIn_none, (rootOf_syms ws).mem_iff, mem_posTo] at e
   exact absurd ⟨hs, h⟩ e
  | some k =>
   refine ⟨k, rfl, ?_⟩
   rw [rd_getElem (by rw [onceM_length]; exact hs)]
   simp [onceM, e]
 ·have e : depIn (rootOf ws) s = none := by
   rw [depIn_none, (rootOf_syms ws).mem_iff, mem_posTo]
   exact fun h2 => h h2.2
  rw [rd_getElem (by rw [onceM_length]; exact hs)]
  simp [onceM, e]
theorem onceM_pos (ws : List Int) (s : Nat) (hs : s < ws.length) : 0 ≤ rd (onceM ws) s ∧ (0 < rd (onceM ws) s ↔ 0 < rd ws s) := by
 obtain ⟨h1, h2⟩ := onceM_at ws s hs
 by_cases h : 0 < rd ws s
 ·obtain ⟨k, _, e⟩ := h1 h
  rw [e]
  exact ⟨by omega, by omega⟩
 ·rw [h2 h]
  exact ⟨by omega, by omega⟩
theorem sumR_pos (ws xs : List Int) (hl : xs.length = ws.length) (hp : ∀ s, s < ws.length → 0 ≤ rd xs s ∧ rd xs s ≤ 15 ∧ (0 < rd xs s ↔ 0 < rd ws s)) : ∀ s, s ≤ ws.length →
  sumR xs s = ((posTo ws s).map fun j => (2 : Int) ^ (15 - (rd xs j).toNat)).sum ∧ manyR xs s = ((posTo ws s).length : Nat)
 | 0, _ => by
  rw [sumR_start, manyR_start]
  simp [posTo]
 | s + 1, h => by
  obtain ⟨i1, i2⟩ := sumR_pos ws xs hl hp s (by omega)
  obtain ⟨q1, q2, q3⟩ := hp s (by omega)
  by_cases e : 0 < rd ws s
  ·have e' := q3.2 e
   obtain ⟨k, hk⟩ : ∃ k : Nat, rd xs s = k := ⟨(rd xs s).toNat, by omega⟩
   rw [posTo_hit e, sumR_next xs s k (by omega) hk (by omega) (by omega), manyR_next xs s k (by omega) hk (by omega) (by omega), i1, i2, List.map_append, List.sum_append, List.length_append]
   simp [hk]
  ·have e' : rd xs s = 0 := by
    have : ¬ 0 < rd xs s := fun h => e (q3.1 h)
    omega
   rw [posTo_miss e, sumR_zero xs s (by omega) e', manyR_zero xs s (by omega) e']
   exact ⟨i1, i2⟩
theorem befores_one (ws xs : List Int) (hl : xs.length = ws.length) (hp : ∀ s, s < ws.length → 0 ≤ rd xs s ∧ (0 < rd ws s → rd xs s = 1) ∧ (¬ 0 < rd ws s → rd xs s = 0)) : ∀ s, s ≤ ws.length → befores xs s 1 = ((posTo ws s).length : Nat)
 | 0, _ => by
  unfold befores
  rw [before_zero]
  simp [posTo]
 | s + 1, h => by
  have i1 := befores_one ws xs hl hp s (by omega)
  obtain ⟨q1, q2, q3⟩ := hp s (by omega)
  by_cases e : 0 < rd ws s
  ·rw [posTo_hit e, befores_next xs s 1 (by omega) (q2 e), i1, List.length_append]
   simp
  ·rw [posTo_miss e, befores_next xs s 0 (by omega) (q3 e), i1]
   simp
theorem rightB_once (ws : List Int) (hpos : 0 < (posTo ws ws.length).length) (h15 : ∀ x ∈ onceM ws, x ≤ 15) : rightB (onceM ws) = true := by
 rw [← rightR_eq]
 have hlen := onceM_length ws
 have hp : ∀ s, s < ws.length → 0 ≤ rd (onceM ws) s ∧ rd (onceM ws) s ≤ 15 ∧ (0 < rd (onceM ws) s ↔ 0 < rd ws s) := fun s hs => by
  obtain ⟨q1, q2⟩ := onceM_pos ws s hs
  refine ⟨q1, ?_, q2⟩
  rw [rd_getElem (by omega)]
  exact h15 _ (List.getElem_mem _)
 have hok : lensOk (onceM ws) = true := by
  unfold lensOk
  rw [List.all_eq_true]
  intro x hx
  obtain ⟨i, hi, rfl⟩ := List.getElem_of_mem hx
  have := hp i (by omega)
  rw [rd_getElem hi] at this
  simp
  omega
 obtain ⟨s1, s2⟩ := sumR_pos ws (onceM ws) hlen hp ws.length (Nat.le_refl _)
 have hll : 0 < (leavesOf ws).length := by rw [leavesOf_length]; exact hpos
 obtain ⟨root, hroot⟩ : ∃ r, rootOf ws = [r] := List.length_eq_one_iff.1 (hrun_length _ _ hll (by omega))
 have hsy : root.syms.Perm (posTo ws ws.length) := by
  have := rootOf_syms ws
  rw [hroot] at this
  simpa using this
 have hval : ∀ p ∈ root.dep, rd (onceM ws) p.1 = (max p.2 1 : Nat) := fun p hp' => by
  have hm : p.1 ∈ posTo ws ws.length := by
   rw [← hsy.mem_iff, ← HT.dep_syms]
   exact List.mem_map.2 ⟨p, hp', rfl⟩
  obtain ⟨h1, h2⟩ := mem_posTo.1 hm
  obtain ⟨k, hk, e⟩ := (onceM_at ws p.1 h1).1 h2
  have h3 : depIn (rootOf ws) p.1 = some p.2 := (depIn_mem (rootOf_nodup ws) _ _).2 (by rw [hroot]; simpa using hp')
  rw [h3] at hk
  cases hk
  exact e
 unfold rightR
 rw [hok, hlen, s1, s2, Bool.true_and, Bool.or_eq_true]
 cases hr : root with
 | leaf w s =>
  right
  have h1 : (posTo ws ws.length).length = 1 := by rw [← hsy.length_eq, hr]; rfl
  have hb := befores_one ws (onceM ws) hlen (fun s' hs' => ⟨(hp s' hs').1, fun h => by
   have hm : s' ∈ root.syms := hsy.mem_iff.2 (mem_posTo.2 ⟨hs', h⟩)
   rw [hr] at hm
   simp [HT.syms] at hm
   subst hm
   have := hval (s', 0) (by rw [hr]; simp [HT.dep])
   simpa using this, (onceM_at ws s' hs').2⟩) ws.length (Nat.le_refl _)
  rw [hb, h1]
  simp
 | node l r =>
  left
  have hk1 : ∀ p ∈ root.dep, 1 ≤ p.2 := fun p hp' => by
   rw [hr] at hp'
   simp only [HT.dep, List.mem_map] at hp'
   obtain ⟨q, _, rfl⟩ := hp'
   simp
  have hk15 : ∀ p ∈ root.dep, 0 + p.2 ≤ 15 := fun p hp' => by
   have h1 := hval p hp'
   have hm : p.1 ∈ posTo ws ws.length := by
    rw [← hsy.mem_iff, ← HT.dep_syms]
    exact List.mem_map.2 ⟨p, hp', rfl⟩
   have h2 := (hp p.1 (mem_posTo.1 hm).1).2.1
   omega
  have e1 : ((posTo ws ws.length).map fun j => (2 : Int) ^ (15 - (rd (onceM ws) j).toNat)).sum = (root.dep.map fun p => (2 : Int) ^ (15 - (0 + p.2))).sum := by
   rw [← sum_map_perm _ hsy, ← HT.dep_syms, List.map_map]
   congr 1
   apply List.map_congr_left
   intro p hp'
   simp only [Function.comp]
   rw [hval p hp']
   have := hk1 p hp'
   congr 2
   omega
  rw [e1, kraft root 0 hk15]
  decide
theorem lensM_is (m : Nat) (hm : 1 ≤ m) : ∀ (f : Nat) (ws : List Int), (∀ x ∈ ws, 0 ≤ x) → (posTo ws ws.length).length ≤ 2 ^ m → ws.sum ≤ f →
  ∃ wt : List Int, lensM f m ws = onceM wt ∧ wt.length = ws.length ∧ (∀ s, 0 < rd wt s ↔ 0 < rd ws s) ∧ ∀ x ∈ onceM wt, x ≤ (m : Int)
 | 0, ws, h0, hp, hs => by
  refine ⟨ws, rfl, rfl, fun s => Iff.rfl, fun x hx => ?_⟩
  by_cases hall : (onceM ws).all (fun x => decide (x ≤ (m : Int))) = true
  ·have := List.all_eq_true.1 hall x hx
   simpa using this
  ·have h1 := halve_less h0 hm hp hall
   have h2 := (sum_halve ws h0).1
   omega
 | f + 1, ws, h0, hp, hs => by
  unfold lensM
  split
  ·rename_i hall
   exact ⟨ws, rfl, rfl, fun s => Iff.rfl, fun x hx => by
    have := List.all_eq_true.1 hall x hx
    simpa using this⟩
  ·rename_i hall
   have h1 := halve_less h0 hm hp hall
   obtain ⟨wt, e1, e2, e3, e4⟩ := lensM_is m hm f (halve ws) (halve_nonneg h0) (by rw [halve_length, posTo_halve]; exact hp) (by omega)
   refine ⟨wt, e1, by rw [e2, halve_length], fun s => (e3 s).trans ?_, e4⟩
   rw [rd_halve]
   omega
theorem lensOf_is {m : Nat} {ws : List Int} (hm : 1 ≤ m) (h0 : ∀ x ∈ ws, 0 ≤ x) (hp : (posTo ws ws.length).length ≤ 2 ^ m) :
  ∃ wt : List Int, lensOf m ws = onceM wt ∧ wt.length = ws.length ∧ (∀ s, 0 < rd wt s ↔ 0 < rd ws s) ∧ ∀ x ∈ onceM wt, x ≤ (m : Int) :=
 lensM_is m hm _ ws h0 hp (by have := sum_nonneg' ws h0; omega)
theorem lensOf_once {m : Nat} {ws : List Int} (h : ∀ x ∈ onceM ws, x ≤ (m : Int)) : lensOf m ws = onceM ws := by
 unfold lensOf
 cases ws.sum.toNat with
 | zero => rfl
 | succ f =>
  unfold lensM
  rw [if_pos (by rw [List.all_eq_true]; intro x hx; simpa using h x hx)]
theorem posTo_same {ws wt : List Int} (h : ∀ s, 0 < rd wt s ↔ 0 < rd ws s) (k : Nat) : posTo wt k = posTo ws k := by
 unfold posTo
 congr 1
 funext s
 congr 1
 exact propext (h s)
end Go.Proofs.YtdbkbeojedndbaaGreatDoor
namespace Go.Proofs.YtdbkbeojedndbaaGreatDoor
open Go.RowKit

structure ItemOk (it : Item) : Prop where
 s : 0 ≤ it.s ∧ it.s ≤ 18
 bits : 0 ≤ it.bits ∧ it.bits ≤ 7
 extra : 0 ≤ it.extra ∧ it.extra ≤ 127
theorem itemAt_ok {xs : List Int} (h : ∀ j, j < xs.length → 0 ≤ rd xs j ∧ rd xs j ≤ 15) {i : Nat} (hi : i < xs.length) : ItemOk (itemAt xs i).1 := by
 have hx := h i hi
 have hr := runLen_pos hi
 unfold itemAt
 split
 ·exact ⟨⟨by simp, by simp⟩, ⟨by simp, by simp⟩, by simp only []; omega⟩
 ·rename_i h1
  split
  ·rename_i h2
   exact ⟨⟨by simp, by simp⟩, ⟨by simp, by simp⟩, by simp only []; omega⟩
  ·split
   ·exact ⟨⟨by simp, by simp⟩, ⟨by simp, by simp⟩, by simp only []; omega⟩
   ·exact ⟨by simp only []; omega, ⟨by simp, by simp⟩, ⟨by simp, by simp⟩⟩
theorem itemsFrom_ok {xs : List Int} (h : ∀ j, j < xs.length → 0 ≤ rd xs j ∧ rd xs j ≤ 15) : ∀ (f i : Nat), ∀ it ∈ itemsFrom xs f i, ItemOk it := by
 intro f
 induction f with
 | zero => intro i it hit; cases hit
 | succ f ih =>
  intro i it hit
  unfold itemsFrom at hit
  split at hit
  ·rename_i hi
   rcases List.mem_cons.1 hit with rfl | hit
   ·exact itemAt_ok h hi
   ·exact ih _ it hit
  ·cases hit
theorem items_ok {xs : List Int} (h : ∀ j, j < xs.length → 0 ≤ rd xs j ∧ rd xs j ≤ 15) : ∀ it ∈ items xs, ItemOk it := itemsFrom_ok h _ _
def itS (its : List Item) (k : Nat) : Nat := (rd (its.map Item.s) k).toNat
def itB (its : List Item) (k : Nat) : Nat := (rd (its.map Item.bits) k).toNat
def itE (its : List Item) (k : Nat) : Nat := (rd (its.map Item.extra) k).toNat
structure ItAt (its : List Item) (k : Nat) : Prop where
 s : (its.map Item.s)[k]? = some ((itS its k : Nat) : Int)
 s18 : itS its k ≤ 18
 b7 : itB its k ≤ 7
 e127 : itE its k ≤ 127
theorem it_at {its : List Item} (h : ∀ it ∈ its, ItemOk it) {k : Nat} (hk : k < its.length) : its[k] = ⟨(itS its k : Nat), (itB its k : Nat), (itE its k : Nat)⟩ ∧ itS its k ≤ 18 ∧ itB its k ≤ 7 ∧ itE its k ≤ 127 := by
 have ho := h its[k] (List.getElem_mem _)
 have e1 : rd (its.map Item.s) k = its[k].s := by rw [rd_getElem (by simpa using hk)]; simp
 have e2 : rd (its.map Item.bits) k = its[k].bits := by rw [rd_getElem (by simpa using hk)]; simp
 have e3 : rd (its.map Item.extra) k = its[k].extra := by rw [rd_getElem (by simpa using hk)]; simp
 obtain ⟨h1, h2, h3⟩ := ho
 unfold itS itB itE
 rw [e1, e2, e3]
 generalize its[k] = it at *
 obtain ⟨s, b, e⟩ := it
 simp only at *
 refine ⟨?_, by omega, by omega, by omega⟩
 rw [Int.toNat_of_nonneg h1.1, Int.toNat_of_nonneg h2.1, Int.toNat_of_nonneg h3.1]
theorem it_cells {its : List Item} (h : ∀ it ∈ its, ItemOk it) {k : Nat} (hk : k < its.length) : (itemCells its)[k * 3]? = some (.int .i64 (itS its k : Nat)) ∧ (itemCells its)[k * 3 + 1]? = some (.int .i64 (itB its k : Nat)) ∧ (itemCells its)[k * 3 + 2]? = some (.int .u64 (itE its k : Nat)) := by
 have h1 := itemCells_at its k hk
 rw [(it_at h hk).1] at h1
 exact h1
def wtsIt (its : List Item) : Nat → List Int
 | 0 => List.replicate 19 0
 | k + 1 => (wtsIt its k).set (itS its k) (rd (wtsIt its k) (itS its k) + 1)
theorem wtsIt_length (its : List Item) (k : Nat) : (wtsIt its k).length = 19 := by
 induction k with
 | zero => simp [wtsIt]
 | succ k ih => simp [wtsIt, ih]
theorem wtsIt_le (its : List Item) (hs : ∀ k, k < its.length → itS its k ≤ 18) : ∀ (k j : Nat), k ≤ its.length → 0 ≤ rd (wtsIt its k) j ∧ rd (wtsIt its k) j ≤ k := by
 intro k
 induction k with
 | zero =>
  intro j _
  have : rd (wtsIt its 0) j = 0 := rd_zeros 19 j
  omega
 | succ k ih =>
  intro j hk
  have h1 := ih j (by omega)
  have h2 := ih (itS its k) (by omega)
  have h3 := hs k (by omega)
  have e : rd (wtsIt its (k + 1)) j = if itS its k = j then rd (wtsIt its k) (itS its k) + 1 else rd (wtsIt its k) j := by
   show rd ((wtsIt its k).set _ _) j = _
   rw [rd_set (by rw [wtsIt_length]; omega)]
  rw [e]
  split <;> omega
theorem sum_le_mul : ∀ {l : List Int} {B : Int}, 0 ≤ B → (∀ x ∈ l, x ≤ B) → l.sum ≤ l.length * B := by
 intro l B hB
 induction l with
 | nil => intro _; simp
 | cons x l ih =>
  intro h
  have h1 := ih (fun y hy => h y (by simp [hy]))
  have h2 := h x (by simp)
  rw [List.sum_cons, List.length_cons, Int.natCast_add, Int.add_mul]
  omega
theorem wtsIt_nn (its : List Item) (hs : ∀ k, k < its.length → itS its k ≤ 18) (k : Nat) (hk : k ≤ its.length) : ∀ x ∈ wtsIt its k, 0 ≤ x ∧ x ≤ k := fun x hx => by
 obtain ⟨j, hj, rfl⟩ := List.getElem_of_mem hx
 rw [← rd_getElem hj]
 exact wtsIt_le its hs k j hk
theorem wtsIt_sum (its : List Item) (hs : ∀ k, k < its.length → itS its k ≤ 18) (k : Nat) (hk : k ≤ its.length) : (wtsIt its k).sum ≤ 19 * k := by
 have h := sum_le_mul (l := wtsIt its k) (B := k) (by omega) (fun x hx => (wtsIt_nn its hs k hk x hx).2)
 rw [wtsIt_length] at h
 exact h
def lensIt (its : List Item) : List Int := lensOf 7 (wtsIt its its.length)
theorem lensIt_length (its : List Item) : (lensIt its).length = 19 := by unfold lensIt; rw [lensOf_length, wtsIt_length]
theorem lensIt_few (its : List Item) : (posTo (wtsIt its its.length) (wtsIt its its.length).length).length ≤ 2 ^ 7 := by
 have := posTo_le (wtsIt its its.length) (wtsIt its its.length).length
 rw [wtsIt_length] at this ⊢
 have : (2 : Nat) ^ 7 = 128 := by decide
 omega
theorem lensIt_rng (its : List Item) (hs : ∀ k, k < its.length → itS its k ≤ 18) (j : Nat) : 0 ≤ rd (lensIt its) j ∧ rd (lensIt its) j ≤ 7 := by
 rcases Nat.lt_or_ge j 19 with h | h
 ·obtain ⟨wt, e1, e2, e3, e4⟩ := lensOf_is (m := 7) (by omega) (fun x hx => (wtsIt_nn its hs its.length (Nat.le_refl _) x hx).1) (lensIt_few its)
  unfold lensIt
  rw [e1]
  have h1 := onceM_pos wt j (by rw [e2, wtsIt_length]; exact h)
  refine ⟨h1.1, ?_⟩
  rw [rd_getElem (by rw [onceM_length, e2, wtsIt_length]; exact h)]
  exact e4 _ (List.getElem_mem _)
 ·rw [rd_out (by rw [lensIt_length]; exact h)]
  omega
theorem lensIt_ok (its : List Item) (hs : ∀ k, k < its.length → itS its k ≤ 18) : lensOk (lensIt its) = true := by
 unfold lensOk
 rw [List.all_eq_true]
 intro x hx
 obtain ⟨j, hj, rfl⟩ := List.getElem_of_mem hx
 have := lensIt_rng its hs j
 rw [rd_getElem hj] at this
 simp
 omega
def tn (l : List Int) (least : Nat) : Nat → Nat
 | 0 => least
 | d + 1 => if rd l (least + d) = 0 then tn l least d else least + d + 1
theorem tn_rng (l : List Int) (least d : Nat) : least ≤ tn l least d ∧ tn l least d ≤ least + d := by
 induction d with
 | zero => exact ⟨Nat.le_refl _, Nat.le_refl _⟩
 | succ d ih => unfold tn; split <;> omega
def ordV (ls : List Int) : List Int := ordL.map fun s => rd ls s
theorem ordV_length (ls : List Int) : (ordV ls).length = 19 := by simp [ordV, ordL]
theorem rd_ordV {ls : List Int} {j : Nat} (h : j < 19) : rd (ordV ls) j = rd ls (ordL.getD j 0) := by
 rw [rd_getElem (by rw [ordV_length]; exact h)]
 simp only [ordV, List.getElem_map]
 rw [List.getD_eq_getElem?_getD, List.getElem?_eq_getElem (show j < ordL.length from h)]
 rfl
def headS (a b many : Nat) : List Int := lowOf (a - 257) 5 ++ lowOf (b - 1) 5 ++ lowOf (many - 4) 4
def bitsIt (ls : List Int) (its : List Item) (k : Nat) : List Int := (List.range k).flatMap fun j => hiOf (rd (codesOf ls) (itS its j)).toNat (rd ls (itS its j)).toNat ++ lowOf (itE its j) (itB its j)
theorem bitsIt_succ (ls : List Int) (its : List Item) (k : Nat) : bitsIt ls its (k + 1) = bitsIt ls its k ++ hiOf (rd (codesOf ls) (itS its k)).toNat (rd ls (itS its k)).toNat ++ lowOf (itE its k) (itB its k) := by
 simp [bitsIt, List.range_succ, List.append_assoc]
theorem bitsIt_length (ls : List Int) (its : List Item) (hs : ∀ j, 0 ≤ rd ls j ∧ rd ls j ≤ 7) (hb : ∀ k, k < its.length → itB its k ≤ 7) : ∀ k, k ≤ its.length → (bitsIt ls its k).length ≤ 14 * k := by
 intro k
 induction k with
 | zero => intro _; simp [bitsIt]
 | succ k ih =>
  intro hk
  have h1 := ih (by omega)
  have h2 := hs (itS its k)
  have h3 := hb k (by omega)
  rw [bitsIt_succ, List.length_append, List.length_append, hiOf_length, lowOf_length]
  omega
def itsOf (xs ys : List Int) : List Item := items (xs.take (tn xs 257 (xs.length - 257)) ++ ys.take (tn ys 1 (ys.length - 1)))
def manyOf (its : List Item) : Nat := tn (ordV (lensIt its)) 4 15
def putS (xs ys : List Int) : List Int :=
 headS (tn xs 257 (xs.length - 257)) (tn ys 1 (ys.length - 1)) (manyOf (itsOf xs ys)) ++ lows (ordV (lensIt (itsOf xs ys))) 3 (manyOf (itsOf xs ys)) ++ bitsIt (lensIt (itsOf xs ys)) (itsOf xs ys) (itsOf xs ys).length
end Go.Proofs.YtdbkbeojedndbaaGreatDoor
namespace Go.Proofs.YtdbkbeojedndbaaGreatDoor
open Go.RowKit

theorem packB_app {L M : List Int} (h8 : L.length % 8 = 0) : packB (L ++ M) = packB L ++ packB M := by
 apply ext_rd
 ·rw [List.length_append, packB_length, packB_length, packB_length, List.length_append]; omega
 intro j hj
 rw [packB_length, List.length_append] at hj
 rw [rd_packB (by rw [List.length_append]; exact hj)]
 rcases Nat.lt_or_ge j (packB L).length with g | g
 ·rw [rd_appL g]
  rw [packB_length] at g
  rw [rd_packB g]
  have : packAt (L ++ M) j = packAt L j := by
   unfold packAt
   exact pk_congr (fun i hi => by rw [rd_appL (by omega)])
  rw [this]
 ·obtain ⟨i, rfl⟩ : ∃ i, j = (packB L).length + i := ⟨j - (packB L).length, by omega⟩
  rw [rd_appR]
  rw [packB_length] at hj
  rw [rd_packB (by omega)]
  have : packAt (L ++ M) ((packB L).length + i) = packAt M i := by
   unfold packAt
   exact pk_congr (fun t ht => by
    rw [show 8 * ((packB L).length + i) + t = L.length + (8 * i + t) by rw [packB_length]; omega, rd_appR])
  rw [this]
theorem packB_zeros (L : List Int) (k : Nat) (hk : (L.length + k + 7) / 8 = (L.length + 7) / 8) : packB (L ++ List.replicate k 0) = packB L := by
 apply ext_rd
 ·rw [packB_length, packB_length, List.length_append, List.length_replicate]; omega
 intro j hj
 rw [packB_length, List.length_append, List.length_replicate] at hj
 rw [rd_packB (by rw [List.length_append, List.length_replicate]; exact hj), rd_packB (by omega)]
 have : packAt (L ++ List.replicate k 0) j = packAt L j := by
  unfold packAt
  exact pk_congr (fun i hi => by
   rcases Nat.lt_or_ge (8 * j + i) L.length with g | g
   ·rw [rd_appL g]
   ·obtain ⟨t, ht⟩ : ∃ t, 8 * j + i = L.length + t := ⟨8 * j + i - L.length, by omega⟩
    rw [ht, rd_appR, rd_out (L := L) (by omega)]
    have e : rd (List.replicate k 0) t = 0 := by
     unfold rd
     rw [List.getD_eq_getElem?_getD, List.getElem?_replicate]
     split <;> rfl
    rw [e])
 rw [this]
theorem pack8 : ∀ x : Nat, x < 256 → packAt (lowOf x 8) 0 = x := by decide +kernel
theorem packB_low8 {x : Nat} (h : x < 256) : packB (lowOf x 8) = [(x : Int)] := by
 have e : (lowOf x 8).length = 8 := lowOf_length x 8
 unfold packB
 rw [e]
 show [(packAt (lowOf x 8) 0 : Int)] = _
 rw [pack8 x h]
theorem lowOf16 (x : Nat) : lowOf x 16 = lowOf (x % 256) 8 ++ lowOf (x / 256) 8 := by
 simp only [lowOf, List.range_succ, List.range_zero, List.map_cons, List.map_nil, List.nil_append, List.cons_append, List.cons.injEq, and_true]
 refine ⟨?_, ?_, ?_, ?_, ?_, ?_, ?_, ?_, ?_, ?_, ?_, ?_, ?_, ?_, ?_, ?_⟩ <;> congr 1 <;> omega
theorem packB_low16 {x : Nat} (h : x < 65536) : packB (lowOf x 16) = [((x % 256 : Nat) : Int), ((x / 256 : Nat) : Int)] := by
 rw [lowOf16, packB_app (by rw [lowOf_length]), packB_low8 (by omega), packB_low8 (by omega)]
 rfl
def bytesS (b : List Int) : List Int := b.flatMap fun x => lowOf x.toNat 8
theorem bytesS_cons (x : Int) (b : List Int) : bytesS (x :: b) = lowOf x.toNat 8 ++ bytesS b := rfl
theorem bytesS_length (b : List Int) : (bytesS b).length = 8 * b.length := by
 induction b with
 | nil => rfl
 | cons x b ih => rw [bytesS_cons, List.length_append, ih, lowOf_length, List.length_cons]; omega
theorem bytesS_bit (b : List Int) : Bit01 (bytesS b) := by
 induction b with
 | nil => intro x hx; cases hx
 | cons x b ih => rw [bytesS_cons]; exact (lowOf_bit _ _).app ih
theorem packB_bytes {b : List Int} (h : ∀ x ∈ b, 0 ≤ x ∧ x ≤ 255) : packB (bytesS b) = b := by
 induction b with
 | nil => rfl
 | cons x b ih =>
  have hx := h x List.mem_cons_self
  rw [bytesS_cons, packB_app (by rw [lowOf_length]), packB_low8 (by omega), ih (fun y hy => h y (List.mem_cons_of_mem _ hy)), Int.toNat_of_nonneg hx.1]
  rfl
def stoBits : Nat → List Int → List Int
 | 0, _ => []
 | f + 1, b => if b.length ≤ 65535 then ([1, 0, 0, 0, 0, 0, 0, 0] ++ (lowOf b.length 16 ++ lowOf (65535 - b.length) 16)) ++ bytesS b
  else ([0, 0, 0, 0, 0, 0, 0, 0] ++ (lowOf 65535 16 ++ lowOf 0 16)) ++ bytesS (b.take 65535) ++ stoBits f (b.drop 65535)
def stoB : Nat → List Int → List Int
 | 0, _ => []
 | f + 1, b => if b.length ≤ 65535 then [1, ((b.length % 256 : Nat) : Int), ((b.length / 256 : Nat) : Int), ((255 - b.length % 256 : Nat) : Int), ((255 - b.length / 256 : Nat) : Int)] ++ b
  else [0, 255, 255, 0, 0] ++ b.take 65535 ++ stoB f (b.drop 65535)
theorem pack_one : packB [1, 0, 0, 0, 0, 0, 0, 0] = [1] := by decide +kernel
theorem pack_none : packB [0, 0, 0, 0, 0, 0, 0, 0] = [0] := by decide +kernel
theorem stoBits_pack : ∀ (f : Nat) {b : List Int}, (∀ x ∈ b, 0 ≤ x ∧ x ≤ 255) → packB (stoBits f b) = stoB f b := by
 intro f
 induction f with
 | zero => intro b _; show packB [] = []; decide +kernel
 | succ f ih =>
  intro b hb
  unfold stoBits stoB
  split
  ·rename_i hl
   rw [packB_app (by simp [lowOf_length]), packB_app (by rfl), packB_app (by simp [lowOf_length]), pack_one, packB_low16 (by omega), packB_low16 (by omega), packB_bytes hb]
   rw [show (65535 - b.length) % 256 = 255 - b.length % 256 by omega, show (65535 - b.length) / 256 = 255 - b.length / 256 by omega]
   rfl
  ·rw [packB_app (by simp [lowOf_length, bytesS_length]; omega), packB_app (by simp [lowOf_length]), packB_app (by rfl), packB_app (by simp [lowOf_length]), pack_none, packB_low16 (by omega), packB_low16 (by omega), packB_bytes (fun x hx => hb x (List.mem_of_mem_take hx)), ih (fun x hx => hb x (List.mem_of_mem_drop hx))]
   rfl
theorem stoBits_bit : ∀ (f : Nat) (b : List Int), Bit01 (stoBits f b) := by
 have h8 : Bit01 [1, 0, 0, 0, 0, 0, 0, 0] := by intro x hx; simp at hx; omega
 have h0 : Bit01 [0, 0, 0, 0, 0, 0, 0, 0] := by intro x hx; simp at hx; omega
 intro f
 induction f with
 | zero => intro b x hx; cases hx
 | succ f ih =>
  intro b
  unfold stoBits
  split
  ·exact (h8.app ((lowOf_bit _ _).app (lowOf_bit _ _))).app (bytesS_bit _)
  ·exact ((h0.app ((lowOf_bit _ _).app (lowOf_bit _ _))).app (bytesS_bit _)).app (ih _)
end Go.Proofs.YtdbkbeojedndbaaGreatDoor
